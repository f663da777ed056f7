/- Texts of this claim's proof: WSame, WDrop, WDv, AlFam, WRf1, WRf2, WRf3, WDn. No condition. -/
import Derived.Test.YtceeooppejjliaaGreatDoorM6
import Derived.Test.YtceeooppejjliaaGreatDoorM4
import Derived.Test.YtceeooppejjliaaGreatDoorM5
section
namespace Go.AL
open Go Go.RowKit
set_option maxRecDepth 4000
theorem ref12_SameEvent (a b : Ev) (ha : a.asg.length ≤ 1000000) : PC Proofs.Tryz.prog 155 [aEv a, aEv b] (ab (decide (a = b))) := by
 refine PC.enter 59 [.tmp 4] [2, 3] Proofs.Tryz.func155 rfl rfl rfl rfl rfl (by simp) (AWp.of ?_); simp only [go_sem]
 repeat (first | ((with_reducible refine AWp.ofC ?_ ?_); exact rfl; simp only [go_sem]) | ((with_reducible refine an ?_ ?_); exact Au))
 refine ⟨fun h1 => ?_, fun h1 h2 h3 h4 h5 => ?_⟩
 ·repeat (first | ((with_reducible refine AWp.ofC ?_ ?_); exact rfl; simp only [go_sem]) | ((with_reducible refine an ?_ ?_); exact Au))
  refine ret_eq ?_; simp only [go_sem]
  congr 2; symm; apply decide_eq_false; rintro rfl; simp at h1
 ·have hl : a.asg.length = b.asg.length := by omega
  repeat (first | ((with_reducible refine AWp.ofC ?_ ?_); exact rfl; simp only [go_sem]) | ((with_reducible refine an ?_ ?_); exact Au))
  refine AWp.block (AWp.count 5 a.asg.length [] [2, 3] (fun k vs L => L = [] ∧ ∀ (i : Nat) (hi : i < a.asg.length), i < k → a.asg[i] = b.asg[i]) rfl rfl ⟨rfl, by omega⟩ ?_)
  rintro k vs L' hk - ⟨rfl, hI⟩
  simp only [go_sem]
  repeat (first | ((with_reducible refine AWp.ofC ?_ ?_); exact rfl; simp only [go_sem]) | ((with_reducible refine an ?_ ?_); exact Au))
  refine ⟨fun h6 => ?_, fun h6 => ?_⟩
  ·have hka : k < a.asg.length := by omega
   have hkb : k < b.asg.length := by omega
   refine AWp.seq (AWp.block (AWp.seq ?_))
   refine AWp.drawn mixed 11 (by kernel_rfl) ?_; simp only [go_sem, getD_map hka, getD_map hkb]
   repeat ((with_reducible refine an ?_ ?_); exact As)
   repeat (first | ((with_reducible refine AWp.ofC ?_ ?_); exact rfl; simp only [go_sem]) | ((with_reducible refine an ?_ ?_); exact Au))
   refine ⟨fun h7 => ?_, fun h7 h8 => ?_⟩
   ·repeat (first | ((with_reducible refine AWp.ofC ?_ ?_); exact rfl; simp only [go_sem]) | ((with_reducible refine an ?_ ?_); exact Au))
    refine ret_eq ?_; simp only [go_sem]
    congr 2; symm; apply decide_eq_false; rintro rfl; simp at h7
   ·repeat (first | ((with_reducible refine AWp.ofC ?_ ?_); exact rfl; simp only [go_sem]) | ((with_reducible refine an ?_ ?_); exact Au))
    refine ⟨_, List.Sublist.refl _, rfl, fun i hi hik => ?_⟩
    by_cases e : i = k
    ·subst e; exact Prod.ext h7 h8
    ·exact hI i hi (by omega)
  ·repeat (first | ((with_reducible refine AWp.ofC ?_ ?_); exact rfl; simp only [go_sem]) | ((with_reducible refine an ?_ ?_); exact Au))
   refine ret_eq ?_; simp only [go_sem]
   congr 2; symm; apply decide_eq_true
   obtain ⟨k1, k2, k3, k4, k5⟩ := a
   obtain ⟨m1, m2, m3, m4, m5⟩ := b
   simp only [Ev.mk.injEq]
   simp only at h1 h2 h3 h4 h5 hI h6 hl
   exact ⟨h1, h2, h3, h4, List.ext_getElem hl (fun i hi _ => hI i hi (by omega))⟩
theorem ref12_Same (a b : List Pr) (ha : Sm a) : PC Proofs.Tryz.prog 91 [aTr a, aTr b] (ab (decide (a = b))) := by
 have hla := ha.procs
 refine PC.enter 94 [.tmp 4] [2, 3, 6, 7] Proofs.Tryz.func91 rfl rfl rfl rfl rfl (by simp) (AWp.of ?_); simp only [go_sem]
 repeat (first | ((with_reducible refine AWp.ofC ?_ ?_); exact rfl; simp only [go_sem]) | ((with_reducible refine an ?_ ?_); exact Au))
 refine ⟨fun h1 => ?_, fun h1 => ?_⟩
 ·repeat (first | ((with_reducible refine AWp.ofC ?_ ?_); exact rfl; simp only [go_sem]) | ((with_reducible refine an ?_ ?_); exact Au))
  refine ret_eq ?_; simp only [go_sem]
  congr 2; symm; apply decide_eq_false; rintro rfl; simp at h1
 ·have hl : a.length = b.length := by omega
  repeat (first | ((with_reducible refine AWp.ofC ?_ ?_); exact rfl; simp only [go_sem]) | ((with_reducible refine an ?_ ?_); exact Au))
  refine AWp.block (AWp.count 5 a.length [] [2, 3] (fun k vs L => L = [] ∧ ∀ (i : Nat) (hi : i < a.length), i < k → a[i] = b[i]) rfl rfl ⟨rfl, by omega⟩ ?_)
  rintro k vs L' hk - ⟨rfl, hI⟩
  simp only [go_sem]
  repeat (first | ((with_reducible refine AWp.ofC ?_ ?_); exact rfl; simp only [go_sem]) | ((with_reducible refine an ?_ ?_); exact Au))
  refine ⟨fun h2 => ?_, fun h2 => ?_⟩
  ·have hka : k < a.length := by omega
   have hkb : k < b.length := by omega
   have hm := List.getElem_mem hka
   have hev := ha.evs _ hm
   have hvr := ha.vars _ hm
   have hne : a[k] ≠ b[k] → decide (a = b) = false := fun h => decide_eq_false (fun e => h (by subst e; rfl))
   have hA : (List.map aPr a).getD k .any = aPr a[k] := getD_map hka
   have hB : (List.map aPr b).getD k .any = aPr b[k] := getD_map hkb
   have hasg := ha.asg _ hm
   have hxy : a[k] = b[k] → ∀ (i : Nat) (hi : i < a.length), i = k → a[i] = b[i] := by intro h i hi e; subst e; exact h
   generalize a[k] = x at *
   generalize b[k] = y at *
   refine AWp.seq (AWp.block (AWp.cut [2, 3, 5, 6, 7] (fun vs L => L = [] ∧ vs = [.rp 1 [aTr a] 0 0, .rp 1 [aTr b] 0 0, ai k, .rp 3 [aPr x] 0 0, .rp 3 [aPr y] 0 0]) ?_ ?_))
   ·refine AWp.mix mixed [0, 1, 2, 3, 4, 5, 6, 7, 8, 9] (.step 10 (.step 11 (.step 12 (.step 13 .done .done) .done) .done) (.step 11 (.step 10 (.step 12 (.step 13 .done .done) .done) .done) .done)) (by kernel_rfl) ?_; simp only [go_sem, hA, hB]
    repeat ((with_reducible refine an ?_ ?_); exact As)
    refine ⟨fun b1 b2 hb => ?_, fun b1 b2 hb => ?_⟩
    ·have n1 : ¬ b1 = b2 := by omega
     have n2 : ¬ b2 = b1 := by omega
     try simp only [go_sem, n1]
     exact ⟨_, List.Sublist.refl _, by simp⟩
    ·have n1 : ¬ b1 = b2 := by omega
     have n2 : ¬ b2 = b1 := by omega
     try simp only [go_sem, n1, n2]
     exact ⟨_, List.Sublist.refl _, by simp⟩
   ·rintro vs L' - ⟨rfl, rfl⟩
    simp only [go_sem]
    repeat (first | ((with_reducible refine AWp.ofC ?_ ?_); exact rfl; simp only [go_sem]) | ((with_reducible refine an ?_ ?_); exact Au))
    refine ⟨fun h3 => ?_, fun h3 h4 h5 => ?_⟩
    ·repeat (first | ((with_reducible refine AWp.ofC ?_ ?_); exact rfl; simp only [go_sem]) | ((with_reducible refine an ?_ ?_); exact Au))
     refine ret_eq ?_; simp only [go_sem]
     congr 2; symm; apply hne; rintro rfl; simp at h3
    ·have hlv : x.vars.length = y.vars.length := by omega
     have hle : x.evs.length = y.evs.length := by omega
     repeat (first | ((with_reducible refine AWp.ofC ?_ ?_); exact rfl; simp only [go_sem]) | ((with_reducible refine an ?_ ?_); exact Au))
     refine AWp.block (AWp.count 8 x.vars.length [] [2, 3, 5, 6, 7] (fun j vs L => L = [] ∧ ∀ (i : Nat) (hi : i < x.vars.length), i < j → x.vars[i] = y.vars[i]) rfl rfl ⟨rfl, by omega⟩ ?_)
     rintro j vs L' hj - ⟨rfl, hJ⟩
     simp only [go_sem]
     repeat (first | ((with_reducible refine AWp.ofC ?_ ?_); exact rfl; simp only [go_sem]) | ((with_reducible refine an ?_ ?_); exact Au))
     refine ⟨fun h6 => ?_, fun h6 => ?_⟩
     ·have hja : j < x.vars.length := by omega
      have hjb : j < y.vars.length := by omega
      refine AWp.seq (AWp.block (AWp.seq ?_))
      refine AWp.drawn mixed 11 (by kernel_rfl) ?_; simp only [go_sem, getD_map hja, getD_map hjb]
      repeat ((with_reducible refine an ?_ ?_); exact As)
      repeat (first | ((with_reducible refine AWp.ofC ?_ ?_); exact rfl; simp only [go_sem]) | ((with_reducible refine an ?_ ?_); exact Au))
      refine ⟨fun h7 => ?_, fun h7 h8 => ?_⟩
      ·repeat (first | ((with_reducible refine AWp.ofC ?_ ?_); exact rfl; simp only [go_sem]) | ((with_reducible refine an ?_ ?_); exact Au))
       refine ret_eq ?_; simp only [go_sem]
       congr 2; symm; apply hne; rintro rfl; simp at h7
      ·repeat (first | ((with_reducible refine AWp.ofC ?_ ?_); exact rfl; simp only [go_sem]) | ((with_reducible refine an ?_ ?_); exact Au))
       refine ⟨_, List.Sublist.refl _, rfl, fun i hi hij => ?_⟩
       by_cases e : i = j
       ·subst e; exact Prod.ext h7 h8
       ·exact hJ i hi (by omega)
     ·repeat (first | ((with_reducible refine AWp.ofC ?_ ?_); exact rfl; simp only [go_sem]) | ((with_reducible refine an ?_ ?_); exact Au))
      refine AWp.block (AWp.count 9 x.evs.length [] [2, 3, 5, 6, 7] (fun j vs L => L = [] ∧ ∀ (i : Nat) (hi : i < x.evs.length), i < j → x.evs[i] = y.evs[i]) rfl rfl ⟨rfl, by omega⟩ ?_)
      rintro m vs L' hm - ⟨rfl, hM⟩
      simp only [go_sem]
      repeat (first | ((with_reducible refine AWp.ofC ?_ ?_); exact rfl; simp only [go_sem]) | ((with_reducible refine an ?_ ?_); exact Au))
      refine ⟨fun h9 => ?_, fun h9 => ?_⟩
      ·have hma : m < x.evs.length := by omega
       have hmb : m < y.evs.length := by omega
       refine AWp.seq (AWp.block (AWp.seq ?_))
       refine AWp.drawn mixed 10 (by kernel_rfl) ?_; simp only [go_sem, getD_map hma, getD_map hmb]
       repeat ((with_reducible refine an ?_ ?_); exact As)
       repeat ((with_reducible refine an ?_ ?_); exact As)
       refine (ref12_SameEvent x.evs[m] y.evs[m] (hasg _ (List.getElem_mem hma))).val.use ?_; simp only [go_sem]
       repeat (first | ((with_reducible refine AWp.ofC ?_ ?_); exact rfl; simp only [go_sem]) | ((with_reducible refine an ?_ ?_); exact Au))
       refine ⟨fun h7 => ?_, fun h7 => ?_⟩
       ·repeat (first | ((with_reducible refine AWp.ofC ?_ ?_); exact rfl; simp only [go_sem]) | ((with_reducible refine an ?_ ?_); exact Au))
        refine ret_eq ?_; simp only [go_sem]
        congr 2; symm; apply hne; rintro rfl; exact h7 rfl
       ·repeat (first | ((with_reducible refine AWp.ofC ?_ ?_); exact rfl; simp only [go_sem]) | ((with_reducible refine an ?_ ?_); exact Au))
        refine ⟨_, List.Sublist.refl _, rfl, fun i hi hij => ?_⟩
        by_cases e : i = m
        ·subst e; exact h7
        ·exact hM i hi (by omega)
      ·repeat (first | ((with_reducible refine AWp.ofC ?_ ?_); exact rfl; simp only [go_sem]) | ((with_reducible refine an ?_ ?_); exact Au))
       refine ⟨_, List.Sublist.refl _, rfl, fun i hi hik => ?_⟩
       by_cases e : i = k
       ·refine hxy ?_ i hi e
        obtain ⟨k1, k2, k3⟩ := x
        obtain ⟨m1, m2, m3⟩ := y
        simp only [Pr.mk.injEq]
        simp only at h3 hlv hle hJ hM h6 h9
        exact ⟨h3, List.ext_getElem hlv (fun i hi _ => hJ i hi (by omega)), List.ext_getElem hle (fun i hi _ => hM i hi (by omega))⟩
       ·exact hI i hi (by omega)
  ·repeat (first | ((with_reducible refine AWp.ofC ?_ ?_); exact rfl; simp only [go_sem]) | ((with_reducible refine an ?_ ?_); exact Au))
   refine ret_eq ?_; simp only [go_sem]
   congr 2; symm; apply decide_eq_true
   exact List.ext_getElem hl (fun i hi _ => hI i hi (by omega))
end Go.AL
end
section
namespace Go.AL
open Go Go.RowKit
set_option maxRecDepth 4000
def intV (x : Int) : Value := Value.int .i64 x
def aISet (s : List Int) : ABlk := .amap (s.map intV) (s.map fun _ => ab true)
theorem mfind_iset (y : Int) (s : List Int) : (mfind (intV y) (s.map intV)).isSome = decide (y ∈ s) ∧ ∀ i, mfind (intV y) (s.map intV) = some i → i < s.length := by
 induction s with
 | nil => exact ⟨by simp [mfind], fun i h => by simp [mfind] at h⟩
 | cons x s ih =>
  have hk : keyB (intV y) (intV x) = decide (y = x) := rfl
  simp only [List.map_cons, mfind, hk, decide_eq_true_eq]
  by_cases h : y = x
  ·rw [if_pos h]; exact ⟨by simp [h], fun i hi => by cases hi; simp⟩
  ·rw [if_neg h]
   cases hf : mfind (intV y) (s.map intV) with
   | none => rw [hf] at ih; exact ⟨by simp [h]; simpa using ih.1, fun i hi => by cases hi⟩
   | some k => rw [hf] at ih; exact ⟨by simp [h]; simpa using ih.1, fun i hi => by cases hi; simpa using ih.2 k rfl⟩
theorem mget_iset (y : Int) (s : List Int) : mget (intV y) (s.map intV) (s.map fun _ => ab true) (ab false) = ab (decide (y ∈ s)) := by
 obtain ⟨h1, h2⟩ := mfind_iset y s
 unfold mget
 cases hf : mfind (intV y) (s.map intV) with
 | none => rw [hf] at h1; rw [← h1]; rfl
 | some i =>
  rw [hf] at h1
  rw [← h1]
  show (List.map (fun _ => ab true) s).getD i .any = ab true
  rw [List.getD_eq_getElem?_getD]
  simp [h2 i hf]
def ins (s : List Int) (y : Int) : List Int := if y ∈ s then s else s ++ [y]
theorem mem_ins {s : List Int} {y m : Int} : m ∈ ins s y ↔ m ∈ s ∨ m = y := by
 unfold ins; split
 ·rename_i h; exact ⟨.inl, fun h' => h'.elim id (fun e => e ▸ h)⟩
 ·simp
theorem mput_iset (y : Int) (s : List Int) : mput (intV y) (ab true) (s.map intV) (s.map fun _ => ab true) = aISet (ins s y) := by
 obtain ⟨h1, h2⟩ := mfind_iset y s
 unfold mput
 cases hf : mfind (intV y) (s.map intV) with
 | none => rw [hf] at h1; unfold ins; rw [if_neg (by simpa using h1)]; simp [aISet]
 | some i =>
  rw [hf] at h1
  unfold ins; rw [if_pos (by simpa using h1)]
  simp only [aISet]
  congr 1
  apply List.ext_getElem?
  intro j
  rw [List.getElem?_set]
  split
  ·rename_i e; subst e; simp [h2 i hf]
  ·rfl
theorem fits_int (y : Int) : (KK.sc .int).fits (intV y) = true := by simp [KK.fits, intV, SK.vfits]
theorem fits_iset (s : List Int) : ((s.map intV).all (KK.sc .int).fits) = true := by
 simp only [List.all_map, List.all_eq_true]; intro x _; exact fits_int x
def sentP (x : Pr) (n : Nat) (m : Int) : Bool := (x.evs.take n).any fun e => decide (e.kind = 2) && decide (e.msg = m)
def sentB (ps : List Pr) (c : List Int) (m : Int) : Bool := (ps.zip c).any fun x => sentP x.1 x.2.toNat m
def dropEv (S : Int → Bool) (e : Ev) : Ev := if e.kind = 3 ∧ S e.msg = true then { e with kind := 1, peer := 0, msg := 0 } else e
def dropP (S : Int → Bool) (x : Pr) (n : Nat) : Pr := ⟨x.name, (x.vars.map (·.1)).zip (stateAt x n), (x.evs.drop n).map (dropEv S)⟩
def dropS (S : Int → Bool) (ps : List Pr) (c : List Int) : List Pr := (ps.zip c).map fun x => dropP S x.1 x.2.toNat
def dropF (ps : List Pr) (c : List Int) : List Pr := dropS (sentB ps c) ps c
noncomputable def aDrop (ps : List Pr) (c : List Int) : AV := if givenF ps [c] [] ≠ 0 then .tup [aTr [], ai (givenF ps [c] [])] else .tup [aTr (dropF ps c), ai 0]
theorem sentB_succ {ps : List Pr} {c : List Int} {k : Nat} {m : Int} (hk : k < c.length) (hp : k < ps.length) : sentB (ps.take (k + 1)) (c.take (k + 1)) m = (sentB (ps.take k) (c.take k) m || sentP ps[k] c[k].toNat m) := by
 unfold sentB
 rw [List.take_succ_eq_append_getElem hk, List.take_succ_eq_append_getElem hp, List.zip_append (by simp; omega), List.any_append]
 simp
theorem sentP_succ {x : Pr} {j : Nat} {m : Int} (hj : j < x.evs.length) : sentP x (j + 1) m = (sentP x j m || (decide (x.evs[j].kind = 2) && decide (x.evs[j].msg = m))) := by
 unfold sentP
 rw [List.take_succ_eq_append_getElem hj, List.any_append]
 simp
theorem fresh_app (L1 L2 : AHeap) (b : Nat) : fresh (L1 ++ L2) b = (fresh L1 b ∧ fresh L2 b) := by
 induction L1 with
 | nil => simp [fresh]
 | cons x r ih => simp only [List.cons_append, fresh, ih, and_assoc]
theorem lk_skip {L1 : AHeap} {b : Nat} (h : ∀ p ∈ L1, p.1 ≠ b) (X : AHeap) : lk (L1 ++ X) b = lk X b := by
 induction L1 with
 | nil => rfl
 | cons x r ih =>
  simp only [List.cons_append, lk]
  rw [if_neg fun e => h x (by simp) e.symm, ih fun p hp => h p (List.mem_cons_of_mem _ hp)]
theorem AWp.freezeApp {C : Cfg} {cd : Code} {Q : AQ} {ρ : Env} {t : TypeId} {k : Nat} {ys : List AV} {v : AV} {Lv Lr L' : AHeap} (hA : AppSt t k ys v Lv) (hv : LVw Lv Lr L') (h : AWp C cd Q ρ L') : AWp C cd Q ρ (Lv ++ Lr) := by
 cases hA with
 | nil => exact AWp.view [] [] hv (by simp) h
 | row b ys cap => exact AWp.view [true] [] hv (by simp) h
theorem valuesAt_get {ps : List Pr} {c : List Int} {k : Nat} (hk : k < ps.length) (hkc : k < c.length) : (valuesAt ps c)[k]'(by unfold valuesAt; rw [List.length_map, List.length_zip]; omega) = stateAt ps[k] c[k].toNat := by
 unfold valuesAt; simp
theorem apart_lk {L : AHeap} {b : Nat} (h : apart L b) : lk L b = none := by
 induction L with
 | nil => rfl
 | cons x r ih =>
  obtain ⟨c, y⟩ := x
  simp only [apart] at h
  simp only [lk]
  rw [if_neg fun e => h.1 e.symm, ih h.2]
theorem dropS_succ {S : Int → Bool} {ps : List Pr} {c : List Int} {k : Nat} (hk : k < ps.length) (hkc : k < c.length) : dropS S (ps.take (k + 1)) (c.take (k + 1)) = dropS S (ps.take k) (c.take k) ++ [dropP S ps[k] c[k].toNat] := by
 unfold dropS
 rw [List.take_succ_eq_append_getElem hk, List.take_succ_eq_append_getElem hkc, List.zip_append (by simp; omega), List.map_append]
 rfl
set_option maxHeartbeats 4000000 in
theorem prune_Drop (ps : List Pr) (hs : Sm ps) (c : List Int) (hcl : c.length ≤ 1000000) : PC Proofs.Tryz.prog 46 [aTr ps, aInts c] (aDrop ps c) := by
 have hat := variable_At ps hs c hcl
 unfold aAt at hat
 unfold aDrop
 refine PC.enter 138 [.cell 4 24, .tmp 5] [2, 12, 15, 18, 91, 126, 133] Proofs.Tryz.func46 rfl rfl rfl rfl rfl (by simp) (AWp.of ?_); simp only [go_sem]
 intro b4
 repeat ((with_reducible refine an ?_ ?_); exact As)
 refine AWp.of ?_; simp only [go_sem]
 by_cases h1 : givenF ps [c] [] = 0
 ·rw [if_neg (by simp [h1])] at hat
  rw [if_neg (by simp [h1])]
  obtain ⟨hv, hc, hr, _⟩ := givenF_zero h1
  repeat ((with_reducible refine an ?_ ?_); exact As)
  refine (hat).val.use ?_; simp only [go_sem]
  repeat (first | ((with_reducible refine AWp.ofC ?_ ?_); exact rfl; simp only [go_sem]) | ((with_reducible refine an ?_ ?_); exact Au))
  intro b8 h48
  repeat ((with_reducible refine an ?_ ?_); exact As)
  refine AWp.of ?_; simp only [go_sem]
  refine AWp.range' c.length [] [1, 2, 4, 6, 8, 32, 33] (fun k vs L => ∃ s, (∀ m, m ∈ s ↔ sentB (ps.take k) (c.take k) m = true) ∧ L = [(b8, aISet s), (b4, .row 24 1 [.agg [anil]] 1)]) (by omega) rfl rfl rfl ⟨[], by intro m; simp [sentB], rfl⟩ ?_ ?_
  ·rintro k vs L' hk - ⟨s, hI, rfl⟩
   have hkp : k < ps.length := by omega
   have hm := List.getElem_mem hkp
   obtain ⟨hr1, hr2⟩ := inRangeF_get hr hc hkp
   have hsu := fun m => sentB_succ (m := m) hk hkp
   have hev := hs.evs _ hm
   simp only [go_sem]
   repeat ((with_reducible refine an ?_ ?_); exact As)
   refine AWp.of ?_; simp only [go_sem, getD_map hk]
   repeat ((with_reducible refine an ?_ ?_); exact As)
   refine AWp.of ?_; simp only [go_sem, getD_map hkp]
   repeat ((with_reducible refine an ?_ ?_); exact As)
   have htl : (List.take c[k].toNat ps[k].evs).length = c[k].toNat := by rw [List.length_take]; omega
   refine AWp.range' c[k].toNat [] [1, 2, 4, 6, 8, 32, 33, 34, 46, 47] (fun j vs L => ∃ s, (∀ m, m ∈ s ↔ (sentB (ps.take k) (c.take k) m = true ∨ sentP ps[k] j m = true)) ∧ L = [(b8, aISet s), (b4, .row 24 1 [.agg [anil]] 1)]) (by omega) rfl (by show ai _ = ai _; rw [htl]) rfl ⟨s, by intro m; simp [hI, sentP], rfl⟩ ?_ ?_
   ·rintro j vs L' hj - ⟨s, hI, rfl⟩
    have hje : j < ps[k].evs.length := by omega
    have hsu := fun m => sentP_succ (m := m) hje
    have hij : (List.map aEv (List.take c[k].toNat ps[k].evs)).getD j .any = aEv ps[k].evs[j] := by
     rw [List.getD_eq_getElem?_getD, List.getElem?_map, List.getElem?_take, if_pos hj, List.getElem?_eq_getElem hje]; rfl
    simp only [go_sem]
    repeat ((with_reducible refine an ?_ ?_); exact As)
    refine AWp.of ?_; simp only [go_sem, hij]
    repeat ((with_reducible refine an ?_ ?_); exact As)
    intros
    refine AWp.of ?_; simp only [go_sem]
    have hp := mput_iset ps[k].evs[j].msg s
    have hfk := fits_int ps[k].evs[j].msg
    have hfs := fits_iset s
    simp only [intV] at hp hfk hfs
    repeat (first | ((with_reducible refine AWp.ofC ?_ ?_); exact rfl; simp only [go_sem, aISet, hfk, hfs, hp]) | ((with_reducible refine an ?_ ?_); exact Au))
    refine ⟨fun h2 => ?_, fun h2 => ?_⟩
    ·repeat ((with_reducible refine an ?_ ?_); exact As)
     refine ⟨_, List.Sublist.refl _, ins s ps[k].evs[j].msg, fun m => ?_, rfl⟩
     rw [mem_ins, hI, hsu]
     simp only [h2, decide_true, Bool.true_and, Bool.or_eq_true, decide_eq_true_eq]
     rw [or_assoc, eq_comm (a := m)]
    ·refine ⟨_, List.Sublist.refl _, s, fun m => ?_, rfl⟩
     rw [hI, hsu]
     simp [h2]
   ·rintro vs L' - ⟨s, hI, rfl⟩
    simp only [go_sem]
    refine ⟨_, List.Sublist.refl _, s, fun m => ?_, rfl⟩
    rw [hI, hsu]; simp
  ·rintro vs L' - ⟨s, hI, rfl⟩
   have hS : ∀ m, decide (m ∈ s) = sentB ps c m := fun m => by
    have h := hI m
    rw [List.take_length, hc, List.take_length] at h
    by_cases hm : m ∈ s
    ·rw [decide_eq_true hm, h.1 hm]
    ·rw [decide_eq_false hm]; symm; rw [← Bool.not_eq_true]; exact fun h' => hm (h.2 h')
   clear hI
   simp only [go_sem]
   repeat (first | ((with_reducible refine AWp.ofC ?_ ?_); exact rfl; simp only [go_sem]) | ((with_reducible refine an ?_ ?_); exact Au))
   intro b13 h13 h13'
   repeat (first | ((with_reducible refine AWp.ofC ?_ ?_); exact rfl; simp only [go_sem]) | ((with_reducible refine an ?_ ?_); exact Au))
   refine AWp.range' ps.length [] [1, 4, 6, 8, 13, 61, 62] (fun k vs L => ∃ v Ln, L = Ln ++ [(b13, .row 24 1 [.agg [v]] 1), (b8, aISet s), (b4, .row 24 1 [.agg [anil]] 1)] ∧ AppSt 75 3 ((dropS (sentB ps c) (ps.take k) (c.take k)).map aPr) v Ln ∧ ∀ p ∈ Ln, p.1 ≠ b8 ∧ p.1 ≠ b13 ∧ p.1 ≠ b4) (by omega) rfl rfl rfl ⟨anil, [], rfl, .nil, by simp⟩ ?_ ?_
   ·rintro k vs L' hk - ⟨v, Ln, rfl, hA, hne⟩
    have hkc : k < c.length := by omega
    have hm := List.getElem_mem hk
    obtain ⟨hr1, hr2⟩ := inRangeF_get hr hc hk
    have hev := hs.evs _ hm
    have hvr := hs.vars _ hm
    simp only [go_sem]
    have hvl := valuesAt_get hk hkc
    have hvlen : k < (valuesAt ps c).length := by unfold valuesAt; rw [List.length_map, List.length_zip]; omega
    have hstl := stateAt_length ps[k] c[k].toNat
    have hk8 : ∀ X, lk (Ln ++ X) b8 = lk X b8 := lk_skip fun p hp => (hne p hp).1
    have hgc : (List.map ai c).getD k .any = ai c[k] := getD_map hkc
    have hgv : (List.map aInts (valuesAt ps c)).getD k .any = aInts (stateAt ps[k] c[k].toNat) := by rw [getD_map hvlen, hvl]
    repeat ((with_reducible refine an ?_ ?_); exact As)
    refine AWp.of ?_; simp only [go_sem, getD_map hk]
    repeat ((with_reducible refine an ?_ ?_); exact As)
    intros
    refine AWp.of ?_; simp only [go_sem, fresh_app]
    intro b16 hf16 m13 m8 m4
    obtain ⟨L0, hL0⟩ : ∃ L0, L0 = Ln ++ [(b13, ABlk.row 24 1 [AV.agg [v]] 1), (b8, aISet s), (b4, .row 24 1 [.agg [anil]] 1)] := ⟨_, rfl⟩
    have hk8' : lk L0 b8 = some (aISet s) := by rw [hL0, hk8]; simp only [lk, if_true]; rw [if_neg (by omega)]
    rw [← hL0]
    refine AWp.cut [1, 4, 6, 8, 13, 14, 15, 16, 61, 62, 63] (fun vs L => ∃ vv Lv, L = Lv ++ (b16, .row 75 3 [.agg [astr ps[k].name, vv, anil]] 1) :: L0 ∧ AppSt 143 2 (((ps[k].vars.map (·.1)).zip (stateAt ps[k] c[k].toNat)).map aVar) vv Lv ∧ vs = [.sl 1 (c.map ai), .lp b4 1 0 0, .sl 1 ((valuesAt ps c).map aInts), .lm b8, .lp b13 1 0 0, ai k, .rp 3 [aPr ps[k]] 0 0, .lp b16 3 0 0, .sl 3 (ps.map aPr), ai ps.length, ai k]) ?_ ?_
    ·repeat ((with_reducible refine an ?_ ?_); exact As)
     refine AWp.of ?_; simp only [go_sem]
     refine AWp.range' ps[k].vars.length [] [1, 4, 6, 8, 13, 14, 15, 16, 61, 62, 63, 72, 73] (fun j vs L => ∃ vv Lv, L = Lv ++ (b16, .row 75 3 [.agg [astr ps[k].name, vv, anil]] 1) :: L0 ∧ AppSt 143 2 ((((ps[k].vars.map (·.1)).zip (stateAt ps[k] c[k].toNat)).take j).map aVar) vv Lv ∧ ∀ p ∈ Lv, p.1 ≠ b16) (by omega) rfl rfl rfl ⟨anil, [], rfl, .nil, by simp⟩ ?_ ?_
     ·rintro j vs L' hj - ⟨vv, Lv, rfl, hAv, hnv⟩
      have hjs : j < (stateAt ps[k] c[k].toNat).length := by omega
      have hzl : j < ((ps[k].vars.map (·.1)).zip (stateAt ps[k] c[k].toNat)).length := by rw [List.length_zip, List.length_map]; omega
      have hsu : (((ps[k].vars.map (·.1)).zip (stateAt ps[k] c[k].toNat)).take (j + 1)).map aVar = (((ps[k].vars.map (·.1)).zip (stateAt ps[k] c[k].toNat)).take j).map aVar ++ [aVar (ps[k].vars[j].1, (stateAt ps[k] c[k].toNat)[j])] := by
       rw [List.take_succ_eq_append_getElem hzl, List.map_append, List.getElem_zip, List.getElem_map]; rfl
      rw [hsu]
      have hyl : ((((ps[k].vars.map (·.1)).zip (stateAt ps[k] c[k].toNat)).take j).map aVar).length ≤ 1000000 := by simp; omega
      have hgs : (List.map ai (stateAt ps[k] c[k].toNat)).getD j .any = ai (stateAt ps[k] c[k].toNat)[j] := getD_map hjs
      generalize ((((ps[k].vars.map (·.1)).zip (stateAt ps[k] c[k].toNat)).take j).map aVar) = ys at *
      rcases hAv.inv with ⟨e1, rfl, rfl⟩ | ⟨b, cap, rfl, rfl⟩
      ·simp only [go_sem]
       repeat ((with_reducible refine an ?_ ?_); exact As)
       refine AWp.of ?_; simp only [go_sem, getD_map hj]
       repeat ((with_reducible refine an ?_ ?_); exact As)
       intro b18 _ _
       refine AWp.mix mixed [0, 2, 3, 4, 5, 6, 7, 8, 9, 10, 11] (.step 1 (.step 12 (.step 13 (.step 14 (.step 15 .done .done) .done) .done) .done) (.step 12 (.step 1 (.step 13 (.step 14 (.step 15 .done .done) .done) .done) .done) .done)) (by kernel_rfl) ?_; simp only [go_sem, hgv, hgs]
       repeat ((with_reducible refine an ?_ ?_); exact As)
       intro b' cap' hb' _ _
       have n1 : ¬ b16 = b' := by omega
       simp only [go_sem, n1]
       repeat ((with_reducible refine an ?_ ?_); exact As)
       refine ⟨_, List.Sublist.refl _, _, [(b', .row 143 2 [_] cap')], rfl, ?_, ?_⟩
       ·rw [e1]; exact .row _ [_] _
       ·intro p hp; simp at hp; subst hp; exact fun e => n1 e.symm
      ·have n1 : ¬ b = b16 := hnv (b, _) List.mem_cons_self
       have n2 : ¬ b16 = b := fun e => n1 e.symm
       simp only [go_sem]
       repeat ((with_reducible refine an ?_ ?_); exact As)
       refine AWp.of ?_; simp only [go_sem, getD_map hj]
       repeat ((with_reducible refine an ?_ ?_); exact As)
       intro b18 _ _ _
       refine AWp.mix mixed [0, 2, 3, 4, 5, 6, 7, 8, 9, 10, 11] (.step 1 (.step 12 (.step 13 (.step 14 (.step 15 .done .done) .done) .done) .done) (.step 12 (.step 1 (.step 13 (.step 14 (.step 15 .done .done) .done) .done) .done) .done)) (by kernel_rfl) ?_; simp only [go_sem, hgv, hgs, n1, n2]
       repeat ((with_reducible refine an ?_ ?_); exact As)
       intro b' cap' hb' _ _
       simp only [go_sem, hb']
       repeat ((with_reducible refine an ?_ ?_); exact As)
       refine ⟨_, List.Sublist.refl _, _, [(b', .row 143 2 (ys ++ [_]) cap')], rfl, ?_, ?_⟩
       ·have := AppSt.row (t := 143) (k := 2) b' (ys ++ [aVar (ps[k].vars[j].1, (stateAt ps[k] c[k].toNat)[j])]) cap'
        simpa [aVar] using this
       ·intro p hp; simp at hp; subst hp; exact fun e => hb' e.symm
     ·rintro vs L' - ⟨vv, Lv, rfl, hAv, hnv⟩
      simp only [go_sem]
      rw [List.take_of_length_le (by rw [List.length_zip]; omega)] at hAv
      exact ⟨_, List.Sublist.refl _, vv, Lv, rfl, hAv⟩
    ·rintro vs L' - ⟨vv, Lv, rfl, hAv, rfl⟩
     simp only [go_sem]
     have hvw := hAv.vw []
     rw [List.append_nil] at hvw
     refine AWp.freezeApp hAv (.row (Vws.cons (.mkAgg (Vws.cons (.refl _) (Vws.cons hvw (Vws.refl _)))) .nil) (LVw.refl _)) ?_
     refine AWp.seq (AWp.seq ?_)
     refine AWp.mix mixed [0, 1, 2, 3, 4, 5, 6, 7, 8] .done (by kernel_rfl) ?_; simp only [go_sem, hgc]
     repeat ((with_reducible refine an ?_ ?_); exact As)
     have hme : ∀ e ∈ List.drop c[k].toNat ps[k].evs, e ∈ ps[k].evs := fun e he => List.mem_of_mem_drop he
     have hdl : (List.drop c[k].toNat ps[k].evs).length ≤ 1000000 := by rw [List.length_drop]; omega
     have hPr : aPr ⟨ps[k].name, (ps[k].vars.map (·.1)).zip (stateAt ps[k] c[k].toNat), (List.drop c[k].toNat ps[k].evs).map (dropEv (sentB ps c))⟩ = aPr (dropP (sentB ps c) ps[k] c[k].toNat) := rfl
     have hasg : ∀ e ∈ List.drop c[k].toNat ps[k].evs, e.asg.length ≤ 1000000 := fun e he => hs.asg _ hm e (hme e he)
     generalize List.drop c[k].toNat ps[k].evs = es at *
     generalize ((ps[k].vars.map (·.1)).zip (stateAt ps[k] c[k].toNat)) = zs at *
     refine AWp.range' es.length [] [1, 4, 6, 8, 13, 16, 61, 62, 63, 101, 102] (fun j vs L => ∃ ve Le, L = Le ++ (b16, .row 75 3 [.agg [astr ps[k].name, aVars zs, ve]] 1) :: L0 ∧ AppSt 101 5 (((es.map (dropEv (sentB ps c))).take j).map aEv) ve Le ∧ ∀ p ∈ Le, p.1 ≠ b16 ∧ p.1 ≠ b8) (by omega) rfl rfl rfl ⟨anil, [], rfl, .nil, by simp⟩ ?_ ?_
     ·rintro j vs L' hj - ⟨ve, Le, rfl, hAe, hnv⟩
      have hke : ∀ X, lk (Le ++ X) b8 = lk X b8 := lk_skip fun p hp => (hnv p hp).2
      have hk16 : ∀ X, lk (Le ++ X) b16 = lk X b16 := lk_skip fun p hp => (hnv p hp).1
      have hal := hasg _ (List.getElem_mem hj)
      have hsu : ((es.map (dropEv (sentB ps c))).take (j + 1)).map aEv = ((es.map (dropEv (sentB ps c))).take j).map aEv ++ [aEv (dropEv (sentB ps c) es[j])] := by
       rw [List.take_succ_eq_append_getElem (by simpa using hj), List.map_append, List.getElem_map]; rfl
      rw [hsu]
      have hyl : (((es.map (dropEv (sentB ps c))).take j).map aEv).length ≤ 1000000 := by simp; omega
      have hgj : (es.map aEv).getD j .any = aEv es[j] := getD_map hj
      generalize ((es.map (dropEv (sentB ps c))).take j).map aEv = ys at *
      generalize es[j] = z at *
      have hdz : dropEv (sentB ps c) z = if z.kind = 3 ∧ decide (z.msg ∈ s) = true then { z with kind := 1, peer := 0, msg := 0 } else z := by rw [hS]; rfl
      simp only [go_sem]
      repeat ((with_reducible refine an ?_ ?_); exact As)
      refine AWp.of ?_; simp only [go_sem, hgj, fresh_app]
      repeat ((with_reducible refine an ?_ ?_); exact As)
      intro b20 f1 f2 f3
      repeat (first | ((with_reducible refine AWp.ofC ?_ ?_); exact rfl; simp only [go_sem]) | ((with_reducible refine an ?_ ?_); exact Au))
      repeat ((with_reducible refine an ?_ ?_); exact As)
      refine (asgs_clone z.asg hal).val.use ?_; simp only [go_sem]
      refine AWp.cut [1, 4, 6, 8, 13, 16, 20, 61, 62, 63, 101, 102, 103] (fun vs L => L = (b20, .row 101 5 [aEv (dropEv (sentB ps c) z)] 1) :: (Le ++ (b16, .row 75 3 [.agg [astr ps[k].name, aVars zs, ve]] 1) :: L0) ∧ vs = [.sl 1 (c.map ai), .lp b4 1 0 0, .sl 1 ((valuesAt ps c).map aInts), .lm b8, .lp b13 1 0 0, .lp b16 3 0 0, .lp b20 5 0 0, .sl 3 (ps.map aPr), ai ps.length, ai k, .sl 5 (es.map aEv), ai es.length, ai j]) ?_ ?_
      ·have hz : aEv z = aEv z := rfl
       have hg := mget_iset z.msg s
       have hfk := fits_int z.msg
       have hfs := fits_iset s
       simp only [intV] at hg hfk hfs
       have n8 : ¬ b8 = b20 := by have : b8 < b16 := m8; omega
       have n16 : ¬ b16 = b20 := by omega
       have n8' : ¬ b8 = b16 := by omega
       repeat (first | ((with_reducible refine AWp.ofC ?_ ?_); exact rfl; simp only [go_sem, aISet, hfk, hfs, hg, n8, n8', hke, hk8']) | ((with_reducible refine an ?_ ?_); exact Au))
       refine ⟨fun h2 h3 => ?_, fun h2 => ?_⟩
       ·have e := hdz
        rw [if_pos ⟨h2, by simpa using h3⟩] at e
        rw [e]
        exact ⟨_, List.Sublist.refl _, rfl⟩
       ·have e := hdz
        rw [if_neg fun h => h2 h.1 (by simpa using h.2)] at e
        rw [e]
        exact ⟨_, List.Sublist.refl _, rfl⟩
      ·rintro vs L' - ⟨rfl, rfl⟩
       clear hdz
       have n16 : ¬ b16 = b20 := by omega
       have n16' : ¬ b20 = b16 := by omega
       generalize dropEv (sentB ps c) z = z' at *
       rcases hAe.inv with ⟨e1, rfl, rfl⟩ | ⟨b, cap, rfl, rfl⟩
       ·simp only [go_sem]
        repeat (first | ((with_reducible refine AWp.ofC ?_ ?_); exact rfl; simp only [go_sem, n16, n16']) | ((with_reducible refine an ?_ ?_); exact Au))
        repeat ((with_reducible refine an ?_ ?_); exact As)
        intro b' cap' g1 g2 g3 _
        have n5 : ¬ b16 = b' := by omega
        simp only [go_sem, n5]
        repeat ((with_reducible refine an ?_ ?_); exact As)
        refine ⟨_, List.Sublist.cons_cons _ (List.Sublist.cons _ (List.Sublist.refl _)), _, [(b', .row 101 5 [_] cap')], rfl, ?_, ?_⟩
        ·rw [e1]; exact .row _ [_] _
        ·intro p hp
         simp only [List.mem_singleton] at hp
         subst hp
         refine ⟨?_, ?_⟩ <;> (show ¬ b' = _; omega)
       ·have n1 : ¬ b = b16 := (hnv (b, _) List.mem_cons_self).1
        have n2 : ¬ b16 = b := fun e => n1 e.symm
        have n3 : ¬ b20 = b := by have := f1; simp only [fresh] at this; omega
        have n4 : ¬ b = b20 := fun e => n3 e.symm
        simp only [go_sem]
        repeat (first | ((with_reducible refine AWp.ofC ?_ ?_); exact rfl; simp only [go_sem, n16, n16', n1, n2, n3, n4]) | ((with_reducible refine an ?_ ?_); exact Au))
        repeat ((with_reducible refine an ?_ ?_); exact As)
        intro b' cap' g1 g2 g3 _
        have n5 : ¬ b' = b8 := fun e => by
         have := apart_lk g3
         rw [e, hk8'] at this
         cases this
        simp only [go_sem, g2]
        repeat ((with_reducible refine an ?_ ?_); exact As)
        refine ⟨_, List.Sublist.cons_cons _ (List.Sublist.cons _ (List.Sublist.refl _)), _, [(b', .row 101 5 (ys ++ [_]) cap')], rfl, ?_, ?_⟩
        ·have := AppSt.row (t := 101) (k := 5) b' (ys ++ [aEv z']) cap'
         simpa [aEv, aAsgs] using this
        ·intro p hp
         simp only [List.mem_singleton] at hp
         subst hp
         exact ⟨fun e => g2 e.symm, n5⟩
     ·rintro vs L' - ⟨ve, Le, rfl, hAe, hnv⟩
      rw [List.take_of_length_le (by simp)] at hAe
      simp only [go_sem]
      have hvw := hAe.vw []
      rw [List.append_nil] at hvw
      refine AWp.freezeApp hAe (.row (Vws.cons (.mkAgg (Vws.cons (.refl _) (Vws.cons (.refl _) (Vws.cons hvw .nil)))) .nil) (LVw.refl _)) ?_
      have hdr := dropS_succ (S := sentB ps c) hk hkc
      have hyl : ((dropS (sentB ps c) (ps.take k) (c.take k)).map aPr).length ≤ 1000000 := by simp [dropS]; omega
      rw [hdr, List.map_append]
      have hPr' : AV.agg [astr ps[k].name, AV.sl 2 (List.map aVar zs), AV.sl 5 (List.map aEv (es.map (dropEv (sentB ps c))))] = aPr (dropP (sentB ps c) ps[k] c[k].toNat) := hPr
      rw [hPr']
      generalize (dropS (sentB ps c) (ps.take k) (c.take k)).map aPr = ys at *
      generalize dropP (sentB ps c) ps[k] c[k].toNat = q at *
      have m1 : ¬ b13 = b16 := by omega
      have m2 : ¬ b16 = b13 := by omega
      rcases hA.inv with ⟨e1, rfl, rfl⟩ | ⟨b, cap, rfl, rfl⟩
      ·subst hL0
       simp only [go_sem]
       repeat (first | ((with_reducible refine AWp.ofC ?_ ?_); exact rfl; simp only [go_sem, m1, m2]) | ((with_reducible refine an ?_ ?_); exact Au))
       repeat ((with_reducible refine an ?_ ?_); exact As)
       intro b' cap' g1 g2 g3 g4 _
       have n3 : ¬ b13 = b' := by omega
       simp only [go_sem, n3]
       repeat ((with_reducible refine an ?_ ?_); exact As)
       refine ⟨_, List.Sublist.cons_cons _ (List.Sublist.cons _ (List.Sublist.refl _)), _, [(b', .row 75 3 [_] cap')], rfl, ?_, ?_⟩
       ·rw [e1]; exact .row _ [_] _
       ·intro p hp
        simp only [List.mem_singleton] at hp
        subst hp
        refine ⟨?_, ?_, ?_⟩ <;> (show ¬ b' = _; omega)
      ·subst hL0
       have n1 : ¬ b13 = b := fun e => (hne (b, _) List.mem_cons_self).2.1 e.symm
       have n2 : ¬ b16 = b := by have := hf16; simp only [fresh] at this; omega
       have n3 : ¬ b = b16 := fun e => n2 e.symm
       simp only [go_sem]
       repeat (first | ((with_reducible refine AWp.ofC ?_ ?_); exact rfl; simp only [go_sem, m1, m2, n1, n2, n3]) | ((with_reducible refine an ?_ ?_); exact Au))
       repeat ((with_reducible refine an ?_ ?_); exact As)
       intro b' cap' g1 g2 g3 g4 _
       simp only [go_sem, g2]
       repeat ((with_reducible refine an ?_ ?_); exact As)
       refine ⟨_, List.Sublist.cons_cons _ (List.Sublist.cons _ (List.Sublist.refl _)), _, [(b', .row 75 3 (ys ++ [_]) cap')], rfl, ?_, ?_⟩
       ·have := AppSt.row (t := 75) (k := 3) b' (ys ++ [aPr q]) cap'
        simpa [aPr, aVars, aEvs] using this
       ·intro p hp
        simp only [List.mem_singleton] at hp
        subst hp
        refine ⟨?_, ?_, ?_⟩ <;> (show ¬ b' = _; omega)
   ·rintro vs L' - ⟨v, Ln, rfl, hA, hne⟩
    have hend : dropS (sentB ps c) (ps.take ps.length) (c.take ps.length) = dropF ps c := by rw [List.take_length, ← hc, List.take_length]; rfl
    rw [hend] at hA
    have m1 : ¬ b4 = b13 := by omega
    have m2 : ¬ b4 = b8 := by omega
    simp only [go_sem]
    rcases hA.inv with ⟨e1, rfl, rfl⟩ | ⟨b, cap, rfl, rfl⟩
    ·have e2 : dropF ps c = [] := by simpa using e1
     repeat (first | ((with_reducible refine AWp.ofC ?_ ?_); exact rfl; simp only [go_sem, m1, m2]) | ((with_reducible refine an ?_ ?_); exact Au))
     refine ret_view [] ?_; simp only [go_sem, m1, m2]
     rw [e2]
     exact .mkTup (Vws.cons (.mkAgg (Vws.cons (.nil 3) .nil)) (Vws.refl _))
    ·have n1 : ¬ b13 = b := fun e => (hne (b, _) List.mem_cons_self).2.1 e.symm
     have n2 : ¬ b4 = b := fun e => (hne (b, _) List.mem_cons_self).2.2 e.symm
     repeat (first | ((with_reducible refine AWp.ofC ?_ ?_); exact rfl; simp only [go_sem, n1, n2, m1, m2]) | ((with_reducible refine an ?_ ?_); exact Au))
     refine ret_view [true] ?_; simp only [go_sem, n2, m1, m2]
     exact .mkTup (Vws.cons (.mkAgg (Vws.cons (Vw.ofLs (if_pos rfl) (by simp)) .nil)) (Vws.refl _))
 ·rw [if_pos h1] at hat
  rw [if_pos h1]
  repeat ((with_reducible refine an ?_ ?_); exact As)
  refine (hat).val.use ?_; simp only [go_sem]
  repeat (first | ((with_reducible refine AWp.ofC ?_ ?_); exact rfl; simp only [go_sem, h1]) | ((with_reducible refine an ?_ ?_); exact Au))
  refine ret_view [] ?_; simp only [go_sem]
  exact .mkTup (Vws.cons (.mkAgg (Vws.cons (.nil 3) .nil)) (Vws.refl _))
end Go.AL
end
section
namespace Go.AL
open Go Go.RowKit
set_option maxRecDepth 4000
theorem asgF_of_valid {ps : List Pr} (h : validF ps = true) (p : Nat) (hp : p < ps.length) (i : Nat) (hi : i < ps[p].evs.length) (k : Nat) (hk : k < ps[p].evs[i].asg.length) : asgF ps[p].vars.length ps[p].evs[i].asg k = 0 := by
 have hef : evFirst ps = none := by
  unfold validF faultF at h
  simp only [decide_eq_true_eq] at h
  split at h
  ·simp at h
  ·cases h1 : procFirst ps with
   | some x =>
    rw [h1] at h
    unfold procFirst at h1
    rw [Option.map_eq_some_iff] at h1
    obtain ⟨q, hq, rfl⟩ := h1
    have := List.find?_some hq
    simp at this
    exact absurd h this
   | none =>
    rw [h1] at h
    cases h2 : evFirst ps with
    | none => rfl
    | some x =>
     rw [h2] at h
     unfold evFirst at h2
     rw [Option.map_eq_some_iff] at h2
     obtain ⟨q, hq, rfl⟩ := h2
     have := List.find?_some hq
     simp at this
     exact absurd h this
 have h0 := evFirst_get hef hp hi
 unfold evF at h0
 simp only [List.getElem?_eq_getElem hp, List.getElem?_eq_getElem hi] at h0
 split at h0
 ·cases h0
 ·split at h0
  ·cases h0
  ·split at h0
   ·cases h0
   ·by_cases hz : ∀ j, j < ps[p].evs[i].asg.length → asgF ps[p].vars.length ps[p].evs[i].asg j = 0
    ·exact hz k hk
    ·exfalso
     apply hz
     intro j hj
     induction j using Nat.strongRecOn with
     | _ j ih =>
      by_cases hj0 : asgF ps[p].vars.length ps[p].evs[i].asg j = 0
      ·exact hj0
      ·rw [fstF_hit hj (fun m hm => ih m hm (by omega)) hj0] at h0
       exact absurd h0 hj0
def AsgDis (x : Pr) : Prop := ∀ e ∈ x.evs, ∀ (i j : Nat) (hi : i < e.asg.length) (hj : j < e.asg.length), i < j → e.asg[i].1 ≠ e.asg[j].1
theorem dis_of_valid {ps : List Pr} (h : validF ps = true) (p : Nat) (hp : p < ps.length) : AsgDis ps[p] := by
 intro e he i j hi hj hij heq
 obtain ⟨n, hn, rfl⟩ := List.getElem_of_mem he
 have h0 := asgF_of_valid h p hp n hn j hj
 unfold asgF at h0
 simp only [List.getElem?_eq_getElem hj] at h0
 split at h0
 ·cases h0
 ·split at h0
  ·cases h0
  ·rename_i hx
   apply hx
   rw [List.any_eq_true]
   refine ⟨ps[p].evs[n].asg[i], ?_, by simpa using heq⟩
   refine List.mem_of_getElem? (i := i) ?_
   rw [List.getElem?_take, if_pos hij, List.getElem?_eq_getElem hi]
theorem assignL_none {v : Nat} : ∀ (l : List (Int × Int)) (s : List Int), (∀ a ∈ l, 0 ≤ a.1 ∧ a.1 ≠ v) → (assignL s l)[v]? = s[v]?
 | [], s, _ => rfl
 | a :: r, s, h => by
  have ih := assignL_none r (s.set a.1.toNat a.2) fun b hb => h b (List.mem_cons_of_mem _ hb)
  have := h a List.mem_cons_self
  show (assignL (s.set a.1.toNat a.2) r)[v]? = s[v]?
  rw [ih, List.getElem?_set_ne (by omega)]
theorem assignL_hit {v : Nat} : ∀ (l : List (Int × Int)) (s : List Int), v < s.length → (∀ a ∈ l, 0 ≤ a.1) → (∀ (i j : Nat) (hi : i < l.length) (hj : j < l.length), i < j → l[i].1 ≠ l[j].1) →
  ∀ (j : Nat) (hj : j < l.length), l[j].1 = v → (assignL s l)[v]? = some l[j].2
 | [], s, _, _, _, j, hj, _ => by simp at hj
 | a :: r, s, hv, h0, hd, j, hj, hjv => by
  show (assignL (s.set a.1.toNat a.2) r)[v]? = _
  cases j with
  | zero =>
   simp only [List.getElem_cons_zero] at hjv ⊢
   rw [assignL_none r _ fun b hb => ⟨h0 b (List.mem_cons_of_mem _ hb), ?_⟩]
   ·rw [show a.1.toNat = v by omega, List.getElem?_set_self hv]
   ·obtain ⟨i, hi, rfl⟩ := List.getElem_of_mem hb
    have := hd 0 (i + 1) (by simp) (by simpa using hi) (by omega)
    simp only [List.getElem_cons_zero, List.getElem_cons_succ] at this
    omega
  | succ j =>
   simp only [List.getElem_cons_succ] at hjv ⊢
   refine assignL_hit r _ (by rw [List.length_set]; exact hv) (fun b hb => h0 b (List.mem_cons_of_mem _ hb)) (fun i k hi hk hik => ?_) j (by simpa using hj) hjv
   have := hd (i + 1) (k + 1) (by simpa using hi) (by simpa using hk) (by omega)
   simpa using this
theorem recv_peer {ps : List Pr} (hm : msgF ps = none) {p : Nat} (hp : p < ps.length) {i : Nat} (hi : i < ps[p].evs.length) (hk : ps[p].evs[i].kind = 3) :
  ∃ (hq : ps[p].evs[i].peer.toNat < ps.length) (j : Nat) (hj : j < ps[ps[p].evs[i].peer.toNat].evs.length), sndr ps ps[p].evs[i].msg = ((ps[p].evs[i].peer.toNat : Int), (j : Int) + 1) ∧ ps[ps[p].evs[i].peer.toNat].evs[j].kind = 2 ∧ ps[ps[p].evs[i].peer.toNat].evs[j].msg = ps[p].evs[i].msg := by
 have hev := evIds_get hp hi
 have hlt : off ps p + i < (evIds ps).length := (List.getElem?_eq_some_iff.1 hev).1
 have hpz : pairF ps (off ps p + i) = 0 := by
  unfold msgF at hm
  split at hm
  ·cases hm
  ·rename_i hn
   rw [List.find?_eq_none] at hn
   simpa using hn _ (List.mem_range.2 hlt)
 unfold pairF at hpz
 rw [hev] at hpz
 simp only at hpz
 rw [if_neg (by omega), if_pos hk] at hpz
 split at hpz
 ·cases hpz
 ·split at hpz
  ·cases hpz
  ·rename_i hs
   have hs : sendsB ps ps[p].evs[i].peer ps[p].evs[i].msg (p : Int) = true := by simpa using hs
   unfold sendsB at hs
   split at hs
   ·rename_i x hx
    obtain ⟨hq, e⟩ := List.getElem?_eq_some_iff.1 hx
    subst e
    obtain ⟨e, he, h1⟩ := List.any_eq_true.1 hs
    obtain ⟨j, hj, rfl⟩ := List.getElem_of_mem he
    simp only [Bool.and_eq_true, decide_eq_true_iff] at h1
    refine ⟨hq, j, hj, ?_, h1.1.1, h1.1.2⟩
    have := pair_unique hm hq hj (.inl h1.1.1)
    rw [h1.1.1, h1.1.2] at this
    exact this
   ·cases hs
theorem sent_iff {ps : List Pr} (hm : msgF ps = none) {c : List Int} (hc : c.length = ps.length) {p : Nat} (hp : p < ps.length) {i : Nat} (hi : i < ps[p].evs.length) (hk : ps[p].evs[i].kind = 3) :
  ∃ hq : ps[p].evs[i].peer.toNat < c.length, sentB ps c ps[p].evs[i].msg = decide ((sndr ps ps[p].evs[i].msg).2 ≤ c[ps[p].evs[i].peer.toNat]) := by
 obtain ⟨hq, j, hj, h1, h2, h3⟩ := recv_peer hm hp hi hk
 refine ⟨by omega, ?_⟩
 rw [Bool.eq_iff_iff, decide_eq_true_iff, h1]
 unfold sentB
 rw [List.any_eq_true]
 constructor
 ·rintro ⟨x, hx, hs⟩
  obtain ⟨q, hql, rfl⟩ := List.getElem_of_mem hx
  rw [List.length_zip] at hql
  rw [List.getElem_zip] at hs
  unfold sentP at hs
  obtain ⟨e, he, h4⟩ := List.any_eq_true.1 hs
  obtain ⟨k, hk2, rfl⟩ := List.getElem_of_mem he
  rw [List.length_take] at hk2
  dsimp only at h4 hk2
  rw [List.getElem_take] at h4
  simp only [Bool.and_eq_true, decide_eq_true_iff] at h4
  have hu := pair_unique hm (show q < ps.length by omega) (show k < ps[q].evs.length by omega) (.inl h4.1)
  rw [h4.1, h4.2] at hu
  unfold sndr at h1
  rw [hu, Prod.mk.injEq] at h1
  have e1 : q = ps[p].evs[i].peer.toNat := by omega
  have e2 : k = j := by omega
  subst e1; subst e2
  show (k : Int) + 1 ≤ _
  omega
 ·intro h
  dsimp only at h
  refine ⟨(ps[ps[p].evs[i].peer.toNat], c[ps[p].evs[i].peer.toNat]), ?_, ?_⟩
  ·refine List.mem_of_getElem? (i := ps[p].evs[i].peer.toNat) ?_
   rw [List.getElem?_zip_eq_some]
   exact ⟨List.getElem?_eq_getElem hq, List.getElem?_eq_getElem (by omega)⟩
  ·unfold sentP
   rw [List.any_eq_true]
   refine ⟨_, List.mem_of_getElem? (i := j) ?_, by rw [h2, h3]; simp⟩
   rw [List.getElem?_take, if_pos (by dsimp only; omega), List.getElem?_eq_getElem hj]
end Go.AL
end
section
namespace Go.AL
open Go Go.RowKit
section
variable {C : Cfg} {c : Code} {Q : AQ} {ρ : Env} {L : AHeap}
theorem AWp.perm {L' : AHeap} (hp : L.Perm L') (h : AWp C c Q ρ L') : AWp C c Q ρ L :=
 AWp.st (fun _ _ _ _ _ hs => st_view hs (Lf := []) (Lk := L') hp (LVw.refl _) fun _ => .inr (.refl _)) h
theorem AWp.nodup (h : (L.map (·.1)).Nodup → AWp C c Q ρ L) : AWp C c Q ρ L := fun hok n w0 M A0 a w hs => by
 obtain ⟨A, ds, hs'⟩ := st_iff.1 hs
 exact h hs'.l.nodup hok n w0 M A0 a w hs
theorem AWp.viewP {Lf Lk L' : AHeap} (hp : L.Perm (Lf ++ Lk)) (hv : LVw Lf Lk L') (sv : List (Nat × AV)) (hs : ∀ p ∈ sv, Vw Lf (get ρ p.1) p.2) (h : AWp C c Q (sv ++ ρ) L') : AWp C c Q ρ L := by
 refine AWp.st (fun w0 M A0 a w hst => st_view hst hp hv fun i => .inr ?_) h
 clear h
 induction sv with
 | nil => exact .refl _
 | cons p sv ih =>
  obtain ⟨j, x⟩ := p
  simp only [List.cons_append, get]
  split
  ·rename_i e; subst e; exact hs (i, x) List.mem_cons_self
  ·exact ih fun p hp => hs p (List.mem_cons_of_mem _ hp)
theorem AWp.postV (h : AWp C c (fun e ρ' L1 => ∃ Lf Lk L', L1.Perm (Lf ++ Lk) ∧ LVw Lf Lk L' ∧ Q e ρ' L') ρ L) : AWp C c Q ρ L := fun hok n w0 M A0 a w hs =>
 wpIn_mono (h hok n w0 M A0 a w hs) fun _ _ _ ⟨ρ', _, ⟨_, _, L', hp, hv, hq⟩, hst⟩ => ⟨ρ', L', hq, st_view hst hp hv fun _ => .inr (.refl _)⟩
theorem AWp.rowLe {b k cap : Nat} {t : TypeId} {xs : List AV} (hm : (b, .row t k xs cap) ∈ L) (h : xs.length ≤ cap → AWp C c Q ρ L) : AWp C c Q ρ L := fun hok n w0 M A0 a w hs => by
 obtain ⟨A, ds, hs'⟩ := st_iff.1 hs
 obtain ⟨_, _, _, h3, _⟩ := hs'.l.blk _ hm
 exact h h3 hok n w0 M A0 a w hs
theorem AWp.loopN (ls ks : List Nat) (I : Nat → List AV → AHeap → Prop) (m0 : Nat) (h0 : I m0 (ls.map (get ρ)) L)
  (round : ∀ m vs L', vs.length = ls.length → I m vs L' → AWp C c (roundQ ls ks ρ (fun vs' L'' => ∃ m', m' < m ∧ I m' vs' L'') Q) (lenv ls ks vs ρ) L') : AWp C (.loop c) Q ρ L := by
 open Classical in
 let μ : List AV → AHeap → Nat := fun vs L => if h : ∃ m, I m vs L then Classical.choose (least h) else 0
 refine AWp.loop ls ks (fun vs L => ∃ m, I m vs L) μ ⟨m0, h0⟩ fun vs L' hl hI => ?_
 have hμ : μ vs L' = Classical.choose (least hI) := dif_pos hI
 have hm := (Classical.choose_spec (least hI)).1
 refine (round _ vs L' hl hm).mono fun e ρ' L'' hq => ?_
 cases e with
 | normal =>
  obtain ⟨h1, L3, h2, m', h3, h4⟩ := hq
  have hx : ∃ m, I m (ls.map (get ρ')) L3 := ⟨m', h4⟩
  refine ⟨h1, L3, h2, hx, ?_⟩
  have e : μ (ls.map (get ρ')) L3 = Classical.choose (least hx) := dif_pos hx
  rw [e, hμ]
  exact Nat.lt_of_le_of_lt ((Classical.choose_spec (least hx)).2 _ h4) h3
 | _ => exact hq
end
theorem lk_of_mem {L : AHeap} (hn : (L.map (·.1)).Nodup) {b : Nat} {x : ABlk} (h : (b, x) ∈ L) : lk L b = some x := by
 induction L with
 | nil => cases h
 | cons y r ih =>
  obtain ⟨b', y⟩ := y
  simp only [List.map_cons, List.nodup_cons] at hn
  simp only [lk]
  rcases List.mem_cons.1 h with e | h'
  ·cases e; rw [if_pos rfl]
  ·have hne : ¬ b = b' := fun e => by subst e; exact hn.1 (List.mem_map_of_mem (f := (·.1)) h')
   rw [if_neg hne, ih hn.2 h']
theorem flatMap_ext {α β : Type} {f g : α → List β} : ∀ {l : List α}, (∀ x ∈ l, f x = g x) → l.flatMap f = l.flatMap g
 | [], _ => rfl
 | x :: l, h => by simp only [List.flatMap_cons]; rw [h x (by simp), flatMap_ext fun y hy => h y (List.mem_cons_of_mem _ hy)]
def famL (n : Nat) (Ls : Nat → AHeap) : AHeap := (List.range n).flatMap Ls
def famR (n p : Nat) (Ls : Nat → AHeap) : AHeap := ((List.range n).erase p).flatMap Ls
theorem fam_split {n p : Nat} (hp : p < n) (Ls : Nat → AHeap) : (famL n Ls).Perm (Ls p ++ famR n p Ls) := by
 have h := List.Perm.flatMap_right Ls (List.perm_cons_erase (List.mem_range.2 hp))
 rwa [List.flatMap_cons] at h
theorem famR_congr {n p : Nat} {Ls Ls' : Nat → AHeap} (h : ∀ q, q ≠ p → Ls' q = Ls q) : famR n p Ls' = famR n p Ls :=
 flatMap_ext fun q hq => h q fun e => by subst e; exact (List.nodup_range.not_mem_erase) hq
theorem map_range_set (n p : Nat) (V : Nat → AV) (x : AV) : ((List.range n).map V).set p x = (List.range n).map fun q => if q = p then x else V q := by
 apply List.ext_getElem?
 intro i
 rw [List.getElem?_set, List.getElem?_map, List.getElem?_map]
 by_cases hi : i < n
 ·rw [List.getElem?_range hi]
  by_cases e : p = i
  ·subst e; simp [hi]
  ·rw [if_neg e]; simp [Ne.symm e]
 ·have : (List.range n)[i]? = none := by simp; omega
  rw [this]
  split
  ·split
   ·rename_i h; simp at h; omega
   ·rfl
  ·rfl
theorem fam_views {n k : Nat} {t : TypeId} {V : Nat → AV} {Ls : Nat → AHeap} {Y : Nat → List AV} (hn : ((famL n Ls).map (·.1)).Nodup) (h : ∀ p, p < n → AppSt t k (Y p) (V p) (Ls p)) :
  Vws (famL n Ls) ((List.range n).map V) ((List.range n).map fun p => .sl k (Y p)) := by
 refine ⟨by simp, fun i x y hx hy => ?_⟩
 by_cases hi : i < n
 ·rw [List.getElem?_map, List.getElem?_range hi] at hx hy
  cases hx; cases hy
  show Vw (famL n Ls) (V i) (.sl k (Y i))
  rcases (h i hi).inv with ⟨e1, e2, _⟩ | ⟨b, cap, e1, e2⟩
  ·rw [e1, e2]; exact .nil k
  ·rw [e1]
   refine Vw.ofLs (t := t) (cap := cap) (lk_of_mem hn ?_) rfl
   unfold famL
   exact List.mem_flatMap.2 ⟨i, List.mem_range.2 hi, by rw [e2]; exact List.mem_singleton_self _⟩
 ·have : (List.range n)[i]? = none := by simp; omega
  rw [List.getElem?_map, this] at hx; cases hx
theorem map_range_getD {n p : Nat} (hp : p < n) (V : Nat → AV) : ((List.range n).map V).getD p .any = V p := by
 rw [List.getD_eq_getElem?_getD, List.getElem?_map, List.getElem?_range hp]; rfl
end Go.AL
end
section
namespace Go.AL
open Go Go.RowKit
set_option maxRecDepth 4000
theorem ref12_letter (n : Int) : PC Proofs.Tryz.prog 255 [au8 n] (ab (letterI n)) := by
 refine PC.enter 17 [.tmp 2] [] Proofs.Tryz.func255 rfl rfl rfl rfl rfl (by simp) (AWp.of ?_); simp only [go_sem]
 repeat (first | ((with_reducible refine AWp.ofC ?_ ?_); exact rfl; simp only [go_sem]) | ((with_reducible refine an ?_ ?_); exact Au))
 refine ret_eq ?_; simp only [go_sem]
 unfold letterI; rw [Bool.or_comm]
theorem ref12_digit (n : Int) : PC Proofs.Tryz.prog 256 [au8 n] (ab (digitI n)) := by
 refine PC.enter 9 [.tmp 2] [] Proofs.Tryz.func256 rfl rfl rfl rfl rfl (by simp) (AWp.of ?_); simp only [go_sem]
 repeat (first | ((with_reducible refine AWp.ofC ?_ ?_); exact rfl; simp only [go_sem]) | ((with_reducible refine an ?_ ?_); exact Au))
 refine ret_eq ?_; simp only [go_sem]
 rfl
theorem ref12_value (n : Int) : PC Proofs.Tryz.prog 221 [ai n] (ab (inI n (-1073741824) 1073741824)) := by
 refine PC.enter 9 [.tmp 2] [] Proofs.Tryz.func221 rfl rfl rfl rfl rfl (by simp) (AWp.of ?_); simp only [go_sem]
 repeat (first | ((with_reducible refine AWp.ofC ?_ ?_); exact rfl; simp only [go_sem]) | ((with_reducible refine an ?_ ?_); exact Au))
 refine ret_eq ?_; simp only [go_sem]
 rfl
def nameCh (s : ByteArray) (i : Nat) : Bool := letterI (sb s i) || digitI (sb s i) || decide (sb s i = 95)
theorem nameOk_of {s : ByteArray} (h1 : 1 ≤ s.size) (h2 : s.size ≤ 16) (h3 : letterI (sb s 0) = true) : nameOk s = (List.range s.size).all (nameCh s) := by
 unfold nameOk
 rw [decide_eq_true (by omega), decide_eq_true h2, h3]; rfl
theorem nameOk_not {s : ByteArray} (h : s.size < 1 ∨ 16 < s.size ∨ letterI (sb s 0) = false) : nameOk s = false := by
 unfold nameOk
 rcases h with h | h | h
 ·rw [decide_eq_false (by omega)]; rfl
 ·rw [decide_eq_false (show ¬ s.size ≤ 16 by omega)]; simp
 ·rw [h]; simp
theorem ref12_Name (s : ByteArray) : PC Proofs.Tryz.prog 220 [astr s] (ab (nameOk s)) := by
 refine PC.enter 42 [.tmp 2] [] Proofs.Tryz.func220 rfl rfl rfl rfl rfl (by simp) (AWp.of ?_); simp only [go_sem]
 repeat (first | ((with_reducible refine AWp.ofC ?_ ?_); exact rfl; simp only [go_sem]) | ((with_reducible refine an ?_ ?_); exact Au))
 repeat ((with_reducible refine an ?_ ?_); exact As)
 refine GCall.use (ab (letterI (sb s 0))) (fun _ => ⟨At, (ref12_letter _).val.use ⟨rfl, rfl⟩⟩) ?_; simp only [go_sem]
 repeat (first | ((with_reducible refine AWp.ofC ?_ ?_); exact rfl; simp only [go_sem]) | ((with_reducible refine an ?_ ?_); exact Au))
 refine ⟨fun ht => ?_, fun h1 => ?_⟩
 ·repeat (first | ((with_reducible refine AWp.ofC ?_ ?_); exact rfl; simp only [go_sem]) | ((with_reducible refine an ?_ ?_); exact Au))
  refine ret_eq ?_; simp only [go_sem]
  rw [nameOk_not]
  rcases ht with (h | h) | h
  ·exact .inl (by omega)
  ·exact .inr (.inl (by omega))
  ·exact .inr (.inr h)
 ·intro h2 h3
  repeat (first | ((with_reducible refine AWp.ofC ?_ ?_); exact rfl; simp only [go_sem]) | ((with_reducible refine an ?_ ?_); exact Au))
  refine AWp.block (AWp.loopN [3] [0] (fun m vs L => ∃ k : Nat, vs = [ai k] ∧ 1 ≤ k ∧ k ≤ s.size ∧ m = s.size - k ∧ L = [] ∧ ∀ i, i < k → nameCh s i = true) (s.size - 1) ?_ ?_)
  ·exact ⟨1, rfl, by omega, by omega, rfl, rfl, fun i hi => by rw [show i = 0 by omega]; unfold nameCh; rw [h3]; rfl⟩
  rintro m vs L - ⟨k, rfl, k1, k2, rfl, rfl, hI⟩
  simp only [go_sem]
  repeat (first | ((with_reducible refine AWp.ofC ?_ ?_); exact rfl; simp only [go_sem]) | ((with_reducible refine an ?_ ?_); exact Au))
  refine ⟨fun h4 => ?_, fun h4 => ?_⟩
  ·repeat (first | ((with_reducible refine AWp.ofC ?_ ?_); exact rfl; simp only [go_sem]) | ((with_reducible refine an ?_ ?_); exact Au))
   refine (ref12_letter _).val.use ?_
   simp only [go_sem]
   repeat ((with_reducible refine an ?_ ?_); exact As)
   refine GCall.use (ab (digitI (sb s k))) (fun _ => ⟨At, (ref12_digit _).val.use ⟨rfl, rfl⟩⟩) ?_; simp only [go_sem]
   repeat (first | ((with_reducible refine AWp.ofC ?_ ?_); exact rfl; simp only [go_sem]) | ((with_reducible refine an ?_ ?_); exact Au))
   refine ⟨fun h5 h6 h7 => ?_, fun h5 => ?_⟩
   ·repeat (first | ((with_reducible refine AWp.ofC ?_ ?_); exact rfl; simp only [go_sem]) | ((with_reducible refine an ?_ ?_); exact Au))
    refine ret_eq ?_; simp only [go_sem]
    rw [nameOk_of (by omega) (by omega) h3]
    congr 2; symm
    rw [List.all_eq_false]
    refine ⟨k, List.mem_range.2 (by omega), ?_⟩
    unfold nameCh
    have h8 : ¬ sb s k = 95 := h7
    rw [show letterI (sb s k) = false from h5, h6, decide_eq_false h8]; decide
   ·repeat (first | ((with_reducible refine AWp.ofC ?_ ?_); exact rfl; simp only [go_sem]) | ((with_reducible refine an ?_ ?_); exact Au))
    refine ⟨_, List.Sublist.refl _, s.size - (k + 1), by omega, k + 1, rfl, by omega, by omega, rfl, rfl, fun i hi => ?_⟩
    by_cases e : i = k
    ·subst e
     unfold nameCh
     cases h6 : letterI (sb s i)
     ·cases h7 : digitI (sb s i)
      ·have h8 := h5 h6 h7
       have h9 : sb s i = 95 := h8
       rw [decide_eq_true h9]; rfl
      ·rfl
     ·rfl
    ·exact hI i (by omega)
  ·repeat (first | ((with_reducible refine AWp.ofC ?_ ?_); exact rfl; simp only [go_sem]) | ((with_reducible refine an ?_ ?_); exact Au))
   refine ret_eq ?_; simp only [go_sem]
   rw [nameOk_of (by omega) (by omega) h3]
   congr 2; symm
   rw [List.all_eq_true]
   exact fun i hi => hI i (by have := List.mem_range.1 hi; omega)
theorem ref12_head (ps : List Pr) (hs : Sm ps) (p : Nat) (hp : p < ps.length) : PC Proofs.Tryz.prog 181 [aTr ps, ai p] (ai (procF ps p)) := by
 have hm := List.getElem_mem hp
 have hl := hs.procs
 have hvl := hs.vars _ hm
 have hel := hs.evs _ hm
 have hpf : procF ps p = if !nameOk ps[p].name || (ps.take p).any (fun y => decide (y.name = ps[p].name)) then 13 else if 8 < ps[p].vars.length then 5 else
   if fstF (varF ps[p].vars) ps[p].vars.length ≠ 0 then fstF (varF ps[p].vars) ps[p].vars.length else if 64 < ps[p].evs.length then 5 else 0 := by
  unfold procF; rw [List.getElem?_eq_getElem hp]
 have htk : ∀ (q : Nat) (hq : q < ps.length), q < p → (∃ (y : Pr), y ∈ ps.take p ∧ y.name = ps[q].name) := fun q hq hlt => ⟨ps[q], by
  refine List.mem_of_getElem? (i := q) ?_
  rw [List.getElem?_take, if_pos hlt, List.getElem?_eq_getElem hq], rfl⟩
 refine PC.enter 81 [.tmp 4] [2, 5] Proofs.Tryz.func181 rfl rfl rfl rfl rfl (by simp) (AWp.of ?_); simp only [go_sem]
 repeat (first | ((with_reducible refine AWp.ofC ?_ ?_); exact rfl; simp only [go_sem, getD_map hp]) | ((with_reducible refine an ?_ ?_); exact Au))
 intro b5
 repeat (first | ((with_reducible refine AWp.ofC ?_ ?_); exact rfl; simp only [go_sem]) | ((with_reducible refine an ?_ ?_); exact Au))
 repeat ((with_reducible refine an ?_ ?_); exact As)
 refine (ref12_Name _).val.use ?_; simp only [go_sem]
 repeat (first | ((with_reducible refine AWp.ofC ?_ ?_); exact rfl; simp only [go_sem]) | ((with_reducible refine an ?_ ?_); exact Au))
 refine ⟨fun h1 => ?_, fun h1 => ?_⟩
 ·repeat (first | ((with_reducible refine AWp.ofC ?_ ?_); exact rfl; simp only [go_sem]) | ((with_reducible refine an ?_ ?_); exact Au))
  refine ret_eq ?_; simp only [go_sem]
  rw [hpf, if_pos (by rw [h1]; rfl)]
 ·repeat (first | ((with_reducible refine AWp.ofC ?_ ?_); exact rfl; simp only [go_sem]) | ((with_reducible refine an ?_ ?_); exact Au))
  refine AWp.block (AWp.count 6 p [] [1, 2, 5] (fun q vs L => L = [] ∧ ∀ (r : Nat) (hr : r < ps.length), r < q → ps[r].name ≠ ps[p].name) rfl rfl ⟨rfl, by omega⟩ ?_)
  rintro q vs L hq - ⟨rfl, hI⟩
  simp only [go_sem]
  repeat (first | ((with_reducible refine AWp.ofC ?_ ?_); exact rfl; simp only [go_sem]) | ((with_reducible refine an ?_ ?_); exact Au))
  refine ⟨fun h2 => ?_, fun h2 => ?_⟩
  ·have hqp : q < ps.length := by omega
   refine AWp.seq (AWp.block (AWp.seq ?_))
   refine AWp.drawn mixed 8 (by kernel_rfl) ?_; simp only [go_sem, getD_map hqp]
   repeat ((with_reducible refine an ?_ ?_); exact As)
   repeat (first | ((with_reducible refine AWp.ofC ?_ ?_); exact rfl; simp only [go_sem]) | ((with_reducible refine an ?_ ?_); exact Au))
   refine ⟨fun h3 => ?_, fun h3 => ?_⟩
   ·repeat (first | ((with_reducible refine AWp.ofC ?_ ?_); exact rfl; simp only [go_sem]) | ((with_reducible refine an ?_ ?_); exact Au))
    refine ret_eq ?_; simp only [go_sem]
    obtain ⟨y, hy, e⟩ := htk q hqp (by omega)
    rw [hpf, if_pos]
    rw [Bool.or_eq_true]
    exact .inr (List.any_eq_true.2 ⟨y, hy, decide_eq_true (e.trans h3)⟩)
   ·repeat (first | ((with_reducible refine AWp.ofC ?_ ?_); exact rfl; simp only [go_sem]) | ((with_reducible refine an ?_ ?_); exact Au))
    refine ⟨_, List.Sublist.refl _, rfl, fun r hr hrq => ?_⟩
    by_cases e : r = q
    ·subst e; exact h3
    ·exact hI r hr (by omega)
  ·have hno : (ps.take p).any (fun y => decide (y.name = ps[p].name)) = false := by
    rw [List.any_eq_false]
    intro y hy
    obtain ⟨r, hr, rfl⟩ := List.getElem_of_mem hy
    have hr' : r < p := by rw [List.length_take] at hr; omega
    rw [List.getElem_take]
    simpa using hI r (by omega) (by omega)
   have hpf : procF ps p = if 8 < ps[p].vars.length then 5 else if fstF (varF ps[p].vars) ps[p].vars.length ≠ 0 then fstF (varF ps[p].vars) ps[p].vars.length else if 64 < ps[p].evs.length then 5 else 0 := by
    rw [hpf, if_neg (by rw [h1, hno]; decide)]
   repeat (first | ((with_reducible refine AWp.ofC ?_ ?_); exact rfl; simp only [go_sem]) | ((with_reducible refine an ?_ ?_); exact Au))
   repeat (first | ((with_reducible refine AWp.ofC ?_ ?_); exact rfl; simp only [go_sem]) | ((with_reducible refine an ?_ ?_); exact Au))
   refine ⟨fun h4 => ?_, fun h4 => ?_⟩
   ·repeat (first | ((with_reducible refine AWp.ofC ?_ ?_); exact rfl; simp only [go_sem]) | ((with_reducible refine an ?_ ?_); exact Au))
    refine ret_eq ?_; simp only [go_sem]
    rw [hpf, if_pos (by omega)]
   ·have hpf : procF ps p = if fstF (varF ps[p].vars) ps[p].vars.length ≠ 0 then fstF (varF ps[p].vars) ps[p].vars.length else if 64 < ps[p].evs.length then 5 else 0 := by
     rw [hpf, if_neg (by omega)]
    repeat (first | ((with_reducible refine AWp.ofC ?_ ?_); exact rfl; simp only [go_sem]) | ((with_reducible refine an ?_ ?_); exact Au))
    generalize ps[p].vars = vrs at *
    refine AWp.block (AWp.count 7 vrs.length [] [5] (fun i vs L => L = [] ∧ ∀ j, j < i → varF vrs j = 0) rfl rfl ⟨rfl, by omega⟩ ?_)
    rintro i vs L hi - ⟨rfl, hV⟩
    simp only [go_sem]
    repeat (first | ((with_reducible refine AWp.ofC ?_ ?_); exact rfl; simp only [go_sem]) | ((with_reducible refine an ?_ ?_); exact Au))
    refine ⟨fun h5 => ?_, fun h5 => ?_⟩
    ·have hiv : i < vrs.length := by omega
     have e3 : vrs[i]? = some vrs[i] := List.getElem?_eq_getElem hiv
     have hvf : varF vrs i = if !nameOk vrs[i].1 || (vrs.take i).any (fun w => decide (w.1 = vrs[i].1)) then 13 else if !inI vrs[i].2 (-1073741824) 1073741824 then 2 else 0 := by simp only [varF, e3]
     have hret : varF vrs i ≠ 0 → procF ps p = varF vrs i := fun h => by
      rw [hpf, fstF_hit hiv hV h, if_pos h]
     repeat (first | ((with_reducible refine AWp.ofC ?_ ?_); exact rfl; simp only [go_sem, getD_map hiv]) | ((with_reducible refine an ?_ ?_); exact Au))
     repeat ((with_reducible refine an ?_ ?_); exact As)
     refine (ref12_Name _).val.use ?_; simp only [go_sem]
     repeat (first | ((with_reducible refine AWp.ofC ?_ ?_); exact rfl; simp only [go_sem]) | ((with_reducible refine an ?_ ?_); exact Au))
     refine ⟨fun h6 => ?_, fun h6 => ?_⟩
     ·repeat (first | ((with_reducible refine AWp.ofC ?_ ?_); exact rfl; simp only [go_sem]) | ((with_reducible refine an ?_ ?_); exact Au))
      refine ret_eq ?_; simp only [go_sem]
      have hv13 : varF vrs i = 13 := by rw [hvf, if_pos (by rw [h6]; rfl)]
      rw [hret (by rw [hv13]; decide), hv13]
     ·repeat (first | ((with_reducible refine AWp.ofC ?_ ?_); exact rfl; simp only [go_sem]) | ((with_reducible refine an ?_ ?_); exact Au))
      refine AWp.block (AWp.count 8 i [] [5, 7] (fun j vs L => L = [] ∧ ∀ (r : Nat) (hr : r < vrs.length), r < j → vrs[r].1 ≠ vrs[i].1) rfl rfl ⟨rfl, by omega⟩ ?_)
      rintro j vs L hj - ⟨rfl, hJ⟩
      simp only [go_sem]
      repeat (first | ((with_reducible refine AWp.ofC ?_ ?_); exact rfl; simp only [go_sem]) | ((with_reducible refine an ?_ ?_); exact Au))
      refine ⟨fun h7 => ?_, fun h7 => ?_⟩
      ·have hjv : j < vrs.length := by omega
       refine AWp.seq (AWp.block (AWp.seq ?_))
       refine AWp.drawn mixed 12 (by kernel_rfl) ?_; simp only [go_sem, getD_map hiv, getD_map hjv]
       repeat ((with_reducible refine an ?_ ?_); exact As)
       repeat (first | ((with_reducible refine AWp.ofC ?_ ?_); exact rfl; simp only [go_sem]) | ((with_reducible refine an ?_ ?_); exact Au))
       refine ⟨fun h8 => ?_, fun h8 => ?_⟩
       ·repeat (first | ((with_reducible refine AWp.ofC ?_ ?_); exact rfl; simp only [go_sem]) | ((with_reducible refine an ?_ ?_); exact Au))
        refine ret_eq ?_; simp only [go_sem]
        have hv13 : varF vrs i = 13 := by
         rw [hvf, if_pos]
         rw [Bool.or_eq_true]
         refine .inr (List.any_eq_true.2 ⟨vrs[j], ?_, decide_eq_true h8⟩)
         refine List.mem_of_getElem? (i := j) ?_
         rw [List.getElem?_take, if_pos (by omega), List.getElem?_eq_getElem hjv]
        rw [hret (by rw [hv13]; decide), hv13]
       ·repeat (first | ((with_reducible refine AWp.ofC ?_ ?_); exact rfl; simp only [go_sem]) | ((with_reducible refine an ?_ ?_); exact Au))
        refine ⟨_, List.Sublist.refl _, rfl, fun r hr hrq => ?_⟩
        by_cases e : r = j
        ·subst e; exact h8
        ·exact hJ r hr (by omega)
      ·have hno : (vrs.take i).any (fun w => decide (w.1 = vrs[i].1)) = false := by
        rw [List.any_eq_false]
        intro y hy
        obtain ⟨r, hr, rfl⟩ := List.getElem_of_mem hy
        have hr' : r < i := by rw [List.length_take] at hr; omega
        rw [List.getElem_take]
        simpa using hJ r (by omega) (by omega)
       repeat (first | ((with_reducible refine AWp.ofC ?_ ?_); exact rfl; simp only [go_sem, getD_map hiv]) | ((with_reducible refine an ?_ ?_); exact Au))
       repeat ((with_reducible refine an ?_ ?_); exact As)
       refine (ref12_value _).val.use ?_; simp only [go_sem]
       repeat (first | ((with_reducible refine AWp.ofC ?_ ?_); exact rfl; simp only [go_sem]) | ((with_reducible refine an ?_ ?_); exact Au))
       refine ⟨fun h8 => ?_, fun h8 => ?_⟩
       ·repeat (first | ((with_reducible refine AWp.ofC ?_ ?_); exact rfl; simp only [go_sem]) | ((with_reducible refine an ?_ ?_); exact Au))
        refine ret_eq ?_; simp only [go_sem]
        have hv2 : varF vrs i = 2 := by rw [hvf, if_neg (by rw [h6, hno]; decide), if_pos (by rw [h8]; rfl)]
        rw [hret (by rw [hv2]; decide), hv2]
       ·repeat (first | ((with_reducible refine AWp.ofC ?_ ?_); exact rfl; simp only [go_sem]) | ((with_reducible refine an ?_ ?_); exact Au))
        refine ⟨_, List.Sublist.refl _, rfl, fun r hr => ?_⟩
        by_cases e : r = i
        ·subst e; rw [hvf, if_neg (by rw [h6, hno]; decide), if_neg (by rw [h8]; decide)]
        ·exact hV r (by omega)
    ·have hz := fstF_none (f := varF vrs) (n := vrs.length) fun r hr => hV r (by omega)
     repeat (first | ((with_reducible refine AWp.ofC ?_ ?_); exact rfl; simp only [go_sem]) | ((with_reducible refine an ?_ ?_); exact Au))
     repeat (first | ((with_reducible refine AWp.ofC ?_ ?_); exact rfl; simp only [go_sem]) | ((with_reducible refine an ?_ ?_); exact Au))
     refine ⟨fun h6 => ?_, fun h6 => ?_⟩
     ·repeat (first | ((with_reducible refine AWp.ofC ?_ ?_); exact rfl; simp only [go_sem]) | ((with_reducible refine an ?_ ?_); exact Au))
      refine ret_eq ?_; simp only [go_sem]
      rw [hpf, hz, if_neg (by simp), if_pos (by omega)]
     ·repeat (first | ((with_reducible refine AWp.ofC ?_ ?_); exact rfl; simp only [go_sem]) | ((with_reducible refine an ?_ ?_); exact Au))
      refine ret_eq ?_; simp only [go_sem]
      rw [hpf, hz, if_neg (by simp), if_neg (by omega)]
end Go.AL
end
section
namespace Go.AL
open Go Go.RowKit
set_option maxRecDepth 4000
theorem ref12_Find (ps : List Pr) (hs : Sm ps) (kind m : Int) : PC Proofs.Tryz.prog 132 [aTr ps, ai kind, ai m] (aEid (findIn (evIds ps) kind m)) := by
 have hl := hs.procs
 refine PC.enter 52 [.cell 6 156] [3, 9] Proofs.Tryz.func132 rfl rfl rfl rfl rfl (by simp) (AWp.of ?_); simp only [go_sem]
 intro b6
 repeat (first | ((with_reducible refine AWp.ofC ?_ ?_); exact rfl; simp only [go_sem]) | ((with_reducible refine an ?_ ?_); exact Au))
 refine AWp.block (AWp.count 7 ps.length [] [1, 2, 3, 6] (fun p vs L => L = [(b6, .row 156 2 [aEid (0, 0)] 1)] ∧ ∀ (j : Nat) (y : Eid × Ev), j < off ps p → (evIds ps)[j]? = some y → ¬ (y.2.kind = kind ∧ y.2.msg = m)) rfl rfl ⟨by simp [aEid], by simp [off]⟩ ?_)
 rintro p vs L hp - ⟨rfl, hI⟩
 simp only [go_sem]
 repeat (first | ((with_reducible refine AWp.ofC ?_ ?_); exact rfl; simp only [go_sem]) | ((with_reducible refine an ?_ ?_); exact Au))
 refine ⟨fun h1 => ?_, fun h1 => ?_⟩
 ·have hpp : p < ps.length := by omega
  have hel := hs.evs _ (List.getElem_mem hpp)
  repeat (first | ((with_reducible refine AWp.ofC ?_ ?_); exact rfl; simp only [go_sem]) | ((with_reducible refine an ?_ ?_); exact Au))
  refine AWp.block (AWp.count 8 ps[p].evs.length [] [1, 2, 3, 6, 7] (fun i vs L => L = [(b6, .row 156 2 [aEid (0, 0)] 1)] ∧ ∀ (j : Nat) (y : Eid × Ev), j < off ps p + i → (evIds ps)[j]? = some y → ¬ (y.2.kind = kind ∧ y.2.msg = m)) rfl rfl ⟨rfl, hI⟩ ?_)
  rintro i vs L hi - ⟨rfl, hJ⟩
  simp only [go_sem]
  repeat (first | ((with_reducible refine AWp.ofC ?_ ?_); exact rfl; simp only [go_sem, getD_map hpp]) | ((with_reducible refine an ?_ ?_); exact Au))
  refine ⟨fun h2 => ?_, fun h2 => ?_⟩
  ·have hie : i < ps[p].evs.length := by omega
   have hev := evIds_get hpp hie
   repeat ((with_reducible refine an ?_ ?_); exact As)
   refine AWp.of ?_; simp only [go_sem, getD_map hpp, getD_map hie]
   repeat ((with_reducible refine an ?_ ?_); exact As)
   intro b9 _
   repeat (first | ((with_reducible refine AWp.ofC ?_ ?_); exact rfl; simp only [go_sem]) | ((with_reducible refine an ?_ ?_); exact Au))
   refine ⟨fun h3 h4 => ?_, fun h3 => ?_⟩
   ·repeat (first | ((with_reducible refine AWp.ofC ?_ ?_); exact rfl; simp only [go_sem]) | ((with_reducible refine an ?_ ?_); exact Au))
    have hf := findIn_hit hev hJ ⟨h3, h4⟩
    rw [hf]
    refine ret_eq ?_
    simp only [go_sem]
   ·repeat (first | ((with_reducible refine AWp.ofC ?_ ?_); exact rfl; simp only [go_sem]) | ((with_reducible refine an ?_ ?_); exact Au))
    refine ⟨_, List.Sublist.refl _, rfl, fun j y hj hy => ?_⟩
    by_cases e : j = off ps p + i
    ·subst e; rw [hev] at hy; cases hy; exact fun h => h3 h.1 h.2
    ·exact hJ j y (by omega) hy
  ·repeat (first | ((with_reducible refine AWp.ofC ?_ ?_); exact rfl; simp only [go_sem]) | ((with_reducible refine an ?_ ?_); exact Au))
   refine ⟨_, List.Sublist.refl _, rfl, fun j y hj hy => hJ j y ?_ hy⟩
   rw [off_succ hpp] at hj; omega
 ·repeat (first | ((with_reducible refine AWp.ofC ?_ ?_); exact rfl; simp only [go_sem]) | ((with_reducible refine an ?_ ?_); exact Au))
  have hf : findIn (evIds ps) kind m = (0, 0) := findIn_none fun x hx => by
   obtain ⟨j, hj⟩ := List.getElem?_of_mem hx
   refine hI j x ?_ hj
   have h2 := (List.getElem?_eq_some_iff.1 hj).1
   rw [evIds_length] at h2
   have : p = ps.length := by omega
   rw [this]; exact h2
  rw [hf]
  refine ret_eq ?_
  simp only [go_sem]
theorem ref12_At (ps : List Pr) (hs : Sm ps) (p : Nat) (hp : p < ps.length) (i : Nat) (hi : i < ps[p].evs.length) : PC Proofs.Tryz.prog 222 [aTr ps, aEid (p, (i : Int) + 1)] (aEv ps[p].evs[i]) := by
 have hl := hs.procs
 have hel := hs.evs _ (List.getElem_mem hp)
 have e1 : ((i : Int) + 1 - 1).toNat = i := by omega
 have hgi := getD_map (f := aEv) hi
 refine PC.enter 17 [.cell 4 101] [2, 3] Proofs.Tryz.func222 rfl rfl rfl rfl rfl (by simp) (AWp.of ?_); simp only [go_sem]
 intro b4
 refine AWp.seq ?_
 refine AWp.mix mixed [0, 1, 2, 3, 4, 5, 6, 7, 8, 9, 10, 11] (.step 12 .done .done) (by kernel_rfl) ?_; simp only [go_sem, getD_map hp, e1, hgi]
 repeat ((with_reducible refine an ?_ ?_); exact As)
 repeat (first | ((with_reducible refine AWp.ofC ?_ ?_); exact rfl; simp only [go_sem]) | ((with_reducible refine an ?_ ?_); exact Au))
 refine ret_eq ?_
 simp only [go_sem]
theorem ref12_form (ps : List Pr) (hs : Sm ps) (p : Nat) (hp : p < ps.length) (i : Nat) (hi : i < ps[p].evs.length) : PC Proofs.Tryz.prog 182 [aTr ps, ai p, ai i] (ai (evF ps p i)) := by
 have hm := List.getElem_mem hp
 have hl := hs.procs
 have hel := hs.evs _ hm
 have hvl := hs.vars _ hm
 have hal := hs.asg _ hm _ (List.getElem_mem hi)
 have hi' : ((i : Int) - 1).toNat < ps[p].evs.length := by omega
 have hgi := getD_map (f := aEv) hi
 have hgi' := getD_map (f := aEv) hi'
 have ex : evF ps p i = if !formedI ps.length p ps[p].evs[i] then 3 else if !inI ps[p].evs[i].time 0 1099511627776 || decide (ps[p].evs[i].time < lastT ps[p].evs i) then 11 else if 8 < ps[p].evs[i].asg.length then 5 else fstF (asgF ps[p].vars.length ps[p].evs[i].asg) ps[p].evs[i].asg.length := by
  simp only [evF, List.getElem?_eq_getElem hp, List.getElem?_eq_getElem hi]
 have hlt : lastT ps[p].evs i = if i = 0 then 0 else ps[p].evs[((i : Int) - 1).toNat].time := by
  unfold lastT
  by_cases h : i = 0
  ·rw [if_pos h, if_pos h]
  ·have e : ((i : Int) - 1).toNat = i - 1 := by omega
   rw [if_neg h, if_neg h, List.getElem?_eq_getElem (show i - 1 < ps[p].evs.length by omega)]
   simp only [e]
 generalize lastT ps[p].evs i = lt at *
 generalize ps[p].evs[i] = e at *
 generalize ps[p].evs[((i : Int) - 1).toNat] = e' at *
 refine PC.enter 147 [.tmp 6] [3, 7, 9] Proofs.Tryz.func182 rfl rfl rfl rfl rfl (by simp) (AWp.of ?_); simp only [go_sem]
 repeat (first | ((with_reducible refine AWp.ofC ?_ ?_); exact rfl; simp only [go_sem, getD_map hp, hgi]) | ((with_reducible refine an ?_ ?_); exact Au))
 intro b7
 refine AWp.cut [1, 2, 3, 7] (fun vs L => L = [] ∧ formedI ps.length p e = true ∧ vs = [ai p, ai i, .rp 1 [aTr ps] 0 0, .rp 5 [aEv e] 0 0]) ?_ ?_
 ·repeat (first | ((with_reducible refine AWp.ofC ?_ ?_); exact rfl; simp only [go_sem]) | ((with_reducible refine an ?_ ?_); exact Au))
  refine ⟨fun h1 => ?_, fun h1 => ?_⟩
  ·repeat (first | ((with_reducible refine AWp.ofC ?_ ?_); exact rfl; simp only [go_sem]) | ((with_reducible refine an ?_ ?_); exact Au))
   refine ⟨fun h2 => ?_, fun h2 h3 => ?_⟩
   ·repeat (first | ((with_reducible refine AWp.ofC ?_ ?_); exact rfl; simp only [go_sem]) | ((with_reducible refine an ?_ ?_); exact Au))
    refine ret_eq ?_; simp only [go_sem]
    rw [ex, if_pos]
    unfold formedI
    rw [if_pos h1]
    rcases h2 with h2 | h2
    ·rw [decide_eq_false h2]; rfl
    ·rw [decide_eq_false h2, Bool.and_false]; rfl
   ·refine ⟨_, List.Sublist.refl _, rfl, ?_⟩
    unfold formedI
    rw [if_pos h1, decide_eq_true (by omega), decide_eq_true (by omega)]; rfl
  ·repeat (first | ((with_reducible refine AWp.ofC ?_ ?_); exact rfl; simp only [go_sem]) | ((with_reducible refine an ?_ ?_); exact Au))
   refine ⟨fun h2 => ?_, fun h2 => ?_⟩
   ·repeat (first | ((with_reducible refine AWp.ofC ?_ ?_); exact rfl; simp only [go_sem]) | ((with_reducible refine an ?_ ?_); exact Au))
    refine ret_eq ?_; simp only [go_sem]
    rw [ex, if_pos]
    unfold formedI inI
    rw [if_neg h1]
    by_cases h3 : e.kind = 2 ∨ e.kind = 3
    ·rw [if_pos h3, Bool.not_eq_true', ← Bool.not_eq_true]
     intro h
     simp only [Bool.and_eq_true, decide_eq_true_eq, Bool.not_eq_true', decide_eq_false_iff_not] at h
     omega
    ·rw [if_neg h3]; rfl
   ·intro h3 h4 h5 h6 h7
    refine ⟨_, List.Sublist.refl _, rfl, ?_⟩
    unfold formedI inI
    have hk : e.kind = 2 ∨ e.kind = 3 := by
     by_cases h : e.kind = 2
     ·exact .inl h
     ·exact .inr (h2 h)
    rw [if_neg h1, if_pos hk]
    simp only [Bool.and_eq_true, decide_eq_true_eq, Bool.not_eq_true', decide_eq_false_iff_not]
    omega
 ·rintro vs L - ⟨rfl, hfm, rfl⟩
  have ex : evF ps p i = if !inI e.time 0 1099511627776 || decide (e.time < lt) then 11 else if 8 < e.asg.length then 5 else fstF (asgF ps[p].vars.length e.asg) e.asg.length := by
   rw [ex, if_neg (by rw [hfm]; decide)]
  simp only [go_sem]
  refine AWp.seq (AWp.seq ?_)
  refine AWp.drawn mixed 27 (by kernel_rfl) ?_; simp only [go_sem, getD_map hp, hgi']
  repeat ((with_reducible refine an ?_ ?_); exact As)
  repeat (first | ((with_reducible refine AWp.ofC ?_ ?_); exact rfl; simp only [go_sem]) | ((with_reducible refine an ?_ ?_); exact Au))
  refine ⟨fun h1 => ?_, fun h1 => ?_⟩
  ·repeat (first | ((with_reducible refine AWp.ofC ?_ ?_); exact rfl; simp only [go_sem]) | ((with_reducible refine an ?_ ?_); exact Au))
   refine ret_eq ?_; simp only [go_sem]
   rw [ex, if_pos]
   unfold inI
   rw [Bool.or_eq_true, Bool.not_eq_true', ← Bool.not_eq_true, decide_eq_true_eq, Bool.and_eq_true, decide_eq_true_eq, decide_eq_true_eq]
   by_cases h0 : i = 0
   ·refine .inl fun h => ?_
    rcases h1 with (h1 | h1) | h1
    ·omega
    ·omega
    ·have := h1.1; omega
   ·rw [if_neg h0] at hlt
    rcases h1 with (h1 | h1) | h1
    ·exact .inl fun h => by omega
    ·exact .inl fun h => by omega
    ·exact .inr (by rw [hlt]; exact h1.2)
  ·intro h2 h3
   have ex : evF ps p i = if 8 < e.asg.length then 5 else fstF (asgF ps[p].vars.length e.asg) e.asg.length := by
    rw [ex, if_neg]
    unfold inI
    rw [Bool.or_eq_true, Bool.not_eq_true', ← Bool.not_eq_true, decide_eq_true_eq, Bool.and_eq_true, decide_eq_true_eq, decide_eq_true_eq]
    rintro (h | h)
    ·exact h ⟨by omega, by omega⟩
    ·rw [hlt] at h
     split at h
     ·omega
     ·exact h3 (by omega) h
   repeat (first | ((with_reducible refine AWp.ofC ?_ ?_); exact rfl; simp only [go_sem]) | ((with_reducible refine an ?_ ?_); exact Au))
   repeat (first | ((with_reducible refine AWp.ofC ?_ ?_); exact rfl; simp only [go_sem]) | ((with_reducible refine an ?_ ?_); exact Au))
   refine ⟨fun h4 => ?_, fun h4 => ?_⟩
   ·repeat (first | ((with_reducible refine AWp.ofC ?_ ?_); exact rfl; simp only [go_sem]) | ((with_reducible refine an ?_ ?_); exact Au))
    refine ret_eq ?_; simp only [go_sem]
    rw [ex, if_pos (by omega)]
   ·have ex : evF ps p i = fstF (asgF ps[p].vars.length e.asg) e.asg.length := by rw [ex, if_neg (by omega)]
    repeat (first | ((with_reducible refine AWp.ofC ?_ ?_); exact rfl; simp only [go_sem]) | ((with_reducible refine an ?_ ?_); exact Au))
    generalize e.asg = al at *
    generalize hnv : ps[p].vars.length = nv at *
    refine AWp.block (AWp.count 8 al.length [] [1, 3, 7] (fun k vs L => L = [] ∧ ∀ j, j < k → asgF nv al j = 0) rfl rfl ⟨rfl, by omega⟩ ?_)
    rintro k vs L hk - ⟨rfl, hI⟩
    simp only [go_sem]
    repeat (first | ((with_reducible refine AWp.ofC ?_ ?_); exact rfl; simp only [go_sem]) | ((with_reducible refine an ?_ ?_); exact Au))
    refine ⟨fun h5 => ?_, fun h5 => ?_⟩
    ·have hka : k < al.length := by omega
     have e3 : al[k]? = some al[k] := List.getElem?_eq_getElem hka
     have hvf : asgF nv al k = if !inI al[k].1 0 ((nv : Int) - 1) || !inI al[k].2 (-1073741824) 1073741824 then 2 else if (al.take k).any (fun b => decide (b.1 = al[k].1)) then 8 else 0 := by simp only [asgF, e3]
     have hret : asgF nv al k ≠ 0 → evF ps p i = asgF nv al k := fun h => by rw [ex, fstF_hit hka hI h]
     have hgk := getD_map (f := aAsg) hka
     repeat (first | ((with_reducible refine AWp.ofC ?_ ?_); exact rfl; simp only [go_sem, hgk]) | ((with_reducible refine an ?_ ?_); exact Au))
     intro b9
     refine AWp.seq (AWp.seq ?_)
     refine AWp.drawn mixed 20 (by kernel_rfl) ?_; simp only [go_sem, getD_map hp, hnv]
     repeat ((with_reducible refine an ?_ ?_); exact As)
     refine GCall.use (ab (inI al[k].2 (-1073741824) 1073741824)) (fun _ => ⟨At, (ref12_value _).val.use ⟨rfl, rfl⟩⟩) ?_; simp only [go_sem]
     repeat (first | ((with_reducible refine AWp.ofC ?_ ?_); exact rfl; simp only [go_sem]) | ((with_reducible refine an ?_ ?_); exact Au))
     refine ⟨fun h6 => ?_, fun h6 => ?_⟩
     ·repeat (first | ((with_reducible refine AWp.ofC ?_ ?_); exact rfl; simp only [go_sem]) | ((with_reducible refine an ?_ ?_); exact Au))
      refine ret_eq ?_; simp only [go_sem]
      have hv2 : asgF nv al k = 2 := by
       rw [hvf, if_pos]
       rw [Bool.or_eq_true, Bool.not_eq_true', ← Bool.not_eq_true, Bool.not_eq_true']
       rcases h6 with (h6 | h6) | h6
       ·exact .inl fun h => by unfold inI at h; rw [Bool.and_eq_true, decide_eq_true_eq, decide_eq_true_eq] at h; omega
       ·exact .inl fun h => by unfold inI at h; rw [Bool.and_eq_true, decide_eq_true_eq, decide_eq_true_eq] at h; omega
       ·exact .inr h6
      rw [hret (by rw [hv2]; decide), hv2]
     ·intro h7 h8
      have hc : ¬ ((!inI al[k].1 0 ((nv : Int) - 1) || !inI al[k].2 (-1073741824) 1073741824) = true) := by
       rw [h8, Bool.not_true, Bool.or_false]
       unfold inI
       rw [Bool.not_eq_true', ← Bool.not_eq_true, Bool.and_eq_true, decide_eq_true_eq, decide_eq_true_eq]
       omega
      repeat (first | ((with_reducible refine AWp.ofC ?_ ?_); exact rfl; simp only [go_sem]) | ((with_reducible refine an ?_ ?_); exact Au))
      refine AWp.block (AWp.count 10 k [] [1, 3, 7, 8, 9] (fun j vs L => L = [] ∧ ∀ (r : Nat) (hr : r < al.length), r < j → al[r].1 ≠ al[k].1) rfl rfl ⟨rfl, by omega⟩ ?_)
      rintro j vs L hj - ⟨rfl, hJ⟩
      simp only [go_sem]
      repeat (first | ((with_reducible refine AWp.ofC ?_ ?_); exact rfl; simp only [go_sem]) | ((with_reducible refine an ?_ ?_); exact Au))
      refine ⟨fun h9 => ?_, fun h9 => ?_⟩
      ·have hja : j < al.length := by omega
       have hgj := getD_map (f := aAsg) hja
       refine AWp.seq (AWp.block (AWp.seq ?_))
       refine AWp.drawn mixed 8 (by kernel_rfl) ?_; simp only [go_sem, hgj]
       repeat ((with_reducible refine an ?_ ?_); exact As)
       repeat (first | ((with_reducible refine AWp.ofC ?_ ?_); exact rfl; simp only [go_sem]) | ((with_reducible refine an ?_ ?_); exact Au))
       refine ⟨fun h10 => ?_, fun h10 => ?_⟩
       ·repeat (first | ((with_reducible refine AWp.ofC ?_ ?_); exact rfl; simp only [go_sem]) | ((with_reducible refine an ?_ ?_); exact Au))
        refine ret_eq ?_; simp only [go_sem]
        have hv8 : asgF nv al k = 8 := by
         rw [hvf, if_neg hc, if_pos]
         refine List.any_eq_true.2 ⟨al[j], ?_, decide_eq_true h10⟩
         refine List.mem_of_getElem? (i := j) ?_
         rw [List.getElem?_take, if_pos (by omega), List.getElem?_eq_getElem hja]
        rw [hret (by rw [hv8]; decide), hv8]
       ·repeat (first | ((with_reducible refine AWp.ofC ?_ ?_); exact rfl; simp only [go_sem]) | ((with_reducible refine an ?_ ?_); exact Au))
        refine ⟨_, List.Sublist.refl _, rfl, fun r hr hrq => ?_⟩
        by_cases e : r = j
        ·subst e; exact h10
        ·exact hJ r hr (by omega)
      ·have hno : (al.take k).any (fun b => decide (b.1 = al[k].1)) = false := by
        rw [List.any_eq_false]
        intro y hy
        obtain ⟨r, hr, rfl⟩ := List.getElem_of_mem hy
        have hr' : r < k := by rw [List.length_take] at hr; omega
        rw [List.getElem_take]
        simpa using hJ r (by omega) (by omega)
       repeat (first | ((with_reducible refine AWp.ofC ?_ ?_); exact rfl; simp only [go_sem]) | ((with_reducible refine an ?_ ?_); exact Au))
       refine ⟨_, List.Sublist.refl _, rfl, fun r hr => ?_⟩
       by_cases e : r = k
       ·subst e; rw [hvf, if_neg hc, if_neg (by rw [hno]; decide)]
       ·exact hI r (by omega)
    ·repeat (first | ((with_reducible refine AWp.ofC ?_ ?_); exact rfl; simp only [go_sem]) | ((with_reducible refine an ?_ ?_); exact Au))
     refine ret_eq ?_; simp only [go_sem]
     rw [ex, fstF_none fun r hr => hI r (by omega)]
end Go.AL
end
section
namespace Go.AL
open Go Go.RowKit
set_option maxRecDepth 4000
theorem pair_first {ps : List Pr} {p : Nat} (hp : p < ps.length) {i : Nat} (hi : i < ps[p].evs.length) :
  findIn (evIds ps) ps[p].evs[i].kind ps[p].evs[i].msg = ((p : Int), (i : Int) + 1) ↔ ¬ 0 < (findIn ((evIds ps).take (off ps p + i)) ps[p].evs[i].kind ps[p].evs[i].msg).2 := by
 have hev := evIds_get hp hi
 constructor
 ·intro h h0
  have hsplit : evIds ps = (evIds ps).take (off ps p + i) ++ (evIds ps).drop (off ps p + i) := (List.take_append_drop _ _).symm
  unfold findIn at h0
  cases hf : ((evIds ps).take (off ps p + i)).find? (fun x => decide (x.2.kind = ps[p].evs[i].kind) && decide (x.2.msg = ps[p].evs[i].msg)) with
  | none => rw [hf] at h0; simp at h0
  | some y =>
   have h1 : findIn (evIds ps) ps[p].evs[i].kind ps[p].evs[i].msg = y.1 := by
    unfold findIn
    rw [hsplit, List.find?_append, hf]; rfl
   have hy := List.mem_of_find?_eq_some hf
   obtain ⟨j, hj⟩ := List.getElem?_of_mem hy
   rw [List.getElem?_take] at hj
   split at hj
   ·rename_i hlt
    obtain ⟨q, hq, r, hr, e, e2⟩ := evIds_inv hj
    rw [e2] at h1
    rw [h1, Prod.mk.injEq] at h
    have e3 : q = p := by omega
    have e4 : r = i := by omega
    subst e3; subst e4
    omega
   ·cases hj
 ·intro hno
  refine findIn_hit hev (fun j y hj hy hc => hno ?_) ⟨rfl, rfl⟩
  have hmem : y ∈ (evIds ps).take (off ps p + i) := by
   refine List.mem_of_getElem? (i := j) ?_
   rw [List.getElem?_take, if_pos hj]; exact hy
  unfold findIn
  cases hf : ((evIds ps).take (off ps p + i)).find? (fun x => decide (x.2.kind = ps[p].evs[i].kind) && decide (x.2.msg = ps[p].evs[i].msg)) with
  | some x => exact evIds_pos ps x (List.mem_of_mem_take (List.mem_of_find?_eq_some hf))
  | none =>
   rw [List.find?_eq_none] at hf
   have := hf y hmem
   simp [hc.1, hc.2] at this
theorem ref12_paired (ps : List Pr) (hs : Sm ps) (hf : Formed ps) (p : Nat) (hp : p < ps.length) (i : Nat) (hi : i < ps[p].evs.length) : PC Proofs.Tryz.prog 183 [aTr ps, aEid (p, (i : Int) + 1)] (ai (pairF ps (off ps p + i))) := by
 have hfe := hf p hp _ (List.getElem_mem hi)
 have hev := evIds_get hp hi
 have hpf : pairF ps (off ps p + i) = if ps[p].evs[i].kind = 2 then if (findIn ((evIds ps).take (off ps p + i)) 2 ps[p].evs[i].msg).2 > 0 then 8 else 0 else if ps[p].evs[i].kind = 3 then if (findIn ((evIds ps).take (off ps p + i)) 3 ps[p].evs[i].msg).2 > 0 then 8 else if !sendsB ps ps[p].evs[i].peer ps[p].evs[i].msg p then 7 else 0 else 0 := by
  unfold pairF; rw [hev]
 have hfst := pair_first hp hi
 have hat := ref12_At ps hs p hp i hi
 generalize ps[p].evs[i] = e at *
 refine PC.enter 70 [.tmp 4] [2, 3, 5, 8] Proofs.Tryz.func183 rfl rfl rfl rfl rfl (by simp) (AWp.of ?_); simp only [go_sem]
 repeat (first | ((with_reducible refine AWp.ofC ?_ ?_); exact rfl; simp only [go_sem]) | ((with_reducible refine an ?_ ?_); exact Au))
 repeat ((with_reducible refine an ?_ ?_); exact As)
 refine (hat).val.use ?_; simp only [go_sem]
 repeat ((with_reducible refine an ?_ ?_); exact As)
 intro b5
 repeat (first | ((with_reducible refine AWp.ofC ?_ ?_); exact rfl; simp only [go_sem]) | ((with_reducible refine an ?_ ?_); exact Au))
 refine ⟨fun h1 => ?_, fun h1 => ?_⟩
 ·repeat (first | ((with_reducible refine AWp.ofC ?_ ?_); exact rfl; simp only [go_sem]) | ((with_reducible refine an ?_ ?_); exact Au))
  refine ret_eq ?_; simp only [go_sem]
  rw [hpf, if_neg (by omega), if_neg (by omega)]
 ·have hk : e.kind = 2 ∨ e.kind = 3 := by
   unfold formedI at hfe
   rw [if_neg h1] at hfe
   by_cases h : e.kind = 2 ∨ e.kind = 3
   ·exact h
   ·rw [if_neg h] at hfe; cases hfe
  obtain ⟨m1, m2, m3, m4⟩ := formed_msg hfe hk
  have hfd := ref12_Find ps hs e.kind e.msg
  generalize hfi : findIn (evIds ps) e.kind e.msg = f at *
  repeat (first | ((with_reducible refine AWp.ofC ?_ ?_); exact rfl; simp only [go_sem]) | ((with_reducible refine an ?_ ?_); exact Au))
  refine AWp.seq (AWp.seq ?_)
  refine AWp.drawn mixed 7 (by kernel_rfl) ?_; simp only [go_sem]
  repeat ((with_reducible refine an ?_ ?_); exact As)
  refine GCall.use (aEid f) (fun _ => ⟨At, (hfd).val.use ⟨rfl, rfl⟩⟩) ?_; simp only [go_sem]
  repeat (first | ((with_reducible refine AWp.ofC ?_ ?_); exact rfl; simp only [go_sem]) | ((with_reducible refine an ?_ ?_); exact Au))
  refine ⟨fun h2 => ?_, fun h2 => ?_⟩
  ·have hne : ¬ f = ((p : Int), (i : Int) + 1) := fun h => by rw [h] at h2; exact h2 rfl rfl
   have h0 : 0 < (findIn ((evIds ps).take (off ps p + i)) e.kind e.msg).2 := by
    by_cases h : 0 < (findIn ((evIds ps).take (off ps p + i)) e.kind e.msg).2
    ·exact h
    ·exact absurd (hfst.2 h) hne
   repeat (first | ((with_reducible refine AWp.ofC ?_ ?_); exact rfl; simp only [go_sem]) | ((with_reducible refine an ?_ ?_); exact Au))
   refine ret_eq ?_; simp only [go_sem]
   rw [hpf]
   rcases hk with hk | hk
   ·rw [hk] at h0; rw [if_pos hk, if_pos h0]
   ·rw [hk] at h0; rw [if_neg (by omega), if_pos hk, if_pos h0]
  ·intro h3
   have he : f = ((p : Int), (i : Int) + 1) := Prod.ext h2 h3
   have h0 := hfst.1 he
   repeat (first | ((with_reducible refine AWp.ofC ?_ ?_); exact rfl; simp only [go_sem]) | ((with_reducible refine an ?_ ?_); exact Au))
   repeat (first | ((with_reducible refine AWp.ofC ?_ ?_); exact rfl; simp only [go_sem]) | ((with_reducible refine an ?_ ?_); exact Au))
   refine ⟨fun h4 => ?_, fun h4 => ?_⟩
   ·have hpn : e.peer.toNat < ps.length := by omega
    have hpe : ((e.peer.toNat : Nat) : Int) = e.peer := Int.toNat_of_nonneg m3
    have hel := hs.evs _ (List.getElem_mem hpn)
    have hgp := getD_map (f := aPr) hpn
    have hsd : sendsB ps e.peer e.msg p = ps[e.peer.toNat].evs.any fun x => decide (x.kind = 2) && decide (x.msg = e.msg) && decide (x.peer = p) := by
     simp only [sendsB, List.getElem?_eq_getElem hpn]
    rw [h4] at h0
    have hpf : pairF ps (off ps p + i) = if !sendsB ps e.peer e.msg p then 7 else 0 := by
     rw [hpf, if_neg (by omega), if_pos h4, if_neg h0]
    rw [hsd] at hpf
    repeat (first | ((with_reducible refine AWp.ofC ?_ ?_); exact rfl; simp only [go_sem]) | ((with_reducible refine an ?_ ?_); exact Au))
    obtain ⟨es, hes⟩ : ∃ es, ps[e.peer.toNat].evs = es := ⟨_, rfl⟩
    rw [hes] at hsd hpf hel
    refine AWp.block (AWp.count 7 es.length [6] [2, 3, 5] (fun j vs L => L = [] ∧ vs = [ab ((es.take j).any fun x => decide (x.kind = 2) && decide (x.msg = e.msg) && decide (x.peer = p))]) rfl rfl ⟨rfl, rfl⟩ ?_)
    rintro j vs L hj - ⟨rfl, rfl⟩
    simp only [go_sem]
    repeat (first | ((with_reducible refine AWp.ofC ?_ ?_); exact rfl; simp only [go_sem, hgp, hes]) | ((with_reducible refine an ?_ ?_); exact Au))
    refine ⟨fun h5 => ?_, fun h5 => ?_⟩
    ·have hje : j < es.length := by omega
     have hgj := getD_map (f := aEv) hje
     have hsu : (es.take (j + 1)).any (fun x => decide (x.kind = 2) && decide (x.msg = e.msg) && decide (x.peer = p)) = ((es.take j).any (fun x => decide (x.kind = 2) && decide (x.msg = e.msg) && decide (x.peer = p)) || (decide (es[j].kind = 2) && decide (es[j].msg = e.msg) && decide (es[j].peer = p))) := by
      rw [List.take_succ_eq_append_getElem hje, List.any_append]; simp
     generalize (es.take j).any (fun x => decide (x.kind = 2) && decide (x.msg = e.msg) && decide (x.peer = p)) = b at *
     repeat ((with_reducible refine an ?_ ?_); exact As)
     refine AWp.of ?_; simp only [go_sem, hgp, hes, hgj]
     repeat ((with_reducible refine an ?_ ?_); exact As)
     intro b8
     repeat (first | ((with_reducible refine AWp.ofC ?_ ?_); exact rfl; simp only [go_sem]) | ((with_reducible refine an ?_ ?_); exact Au))
     repeat ((with_reducible refine And.intro ?_ ?_); focus (intro h; refine ⟨h, ?_⟩; intro h1; first | exact ⟨h, h1⟩ | (intro h2; exact ⟨h, h1, h2⟩)))
     repeat (first | ((with_reducible refine AWp.ofC ?_ ?_); exact rfl; simp only [go_sem]) | ((with_reducible refine an ?_ ?_); exact Au))
     refine ⟨_, List.Sublist.refl _, rfl, ?_⟩
     rw [hsu]
    ·repeat (first | ((with_reducible refine AWp.ofC ?_ ?_); exact rfl; simp only [go_sem]) | ((with_reducible refine an ?_ ?_); exact Au))
     rw [List.take_of_length_le (by omega)]
     repeat (first | ((with_reducible refine AWp.ofC ?_ ?_); exact rfl; simp only [go_sem]) | ((with_reducible refine an ?_ ?_); exact Au))
     refine ⟨fun h6 => ?_, fun h6 => ?_⟩
     ·repeat (first | ((with_reducible refine AWp.ofC ?_ ?_); exact rfl; simp only [go_sem]) | ((with_reducible refine an ?_ ?_); exact Au))
      refine ret_eq ?_; simp only [go_sem]
      rw [hpf, if_pos (by rw [h6]; rfl)]
     ·repeat (first | ((with_reducible refine AWp.ofC ?_ ?_); exact rfl; simp only [go_sem]) | ((with_reducible refine an ?_ ?_); exact Au))
      refine ret_eq ?_; simp only [go_sem]
      rw [hpf, if_neg (by rw [h6]; decide)]
   ·repeat (first | ((with_reducible refine AWp.ofC ?_ ?_); exact rfl; simp only [go_sem]) | ((with_reducible refine an ?_ ?_); exact Au))
    refine ret_eq ?_; simp only [go_sem]
    rw [hpf]
    rcases hk with hk | hk
    ·rw [hk] at h0; rw [if_pos hk, if_neg h0]
    ·exact absurd hk h4
end Go.AL
end
section
namespace Go.AL
open Go Go.RowKit
def dnA (n : Nat) (c : Nat → Nat) : List AV := (List.range n).map fun q => ai (c q)
theorem dnA_length (n : Nat) (c : Nat → Nat) : (dnA n c).length = n := by simp [dnA]
theorem dnA_set {n p : Nat} {c c' : Nat → Nat} {x : Int} (hx : (c' p : Int) = x) (ho : ∀ q, q ≠ p → c' q = c q) : (dnA n c).set p (ai x) = dnA n c' := by
 unfold dnA
 rw [map_range_set]; congr 1; funext q
 by_cases e : q = p
 ·rw [if_pos e, e, hx]
 ·rw [if_neg e, ho q e]
theorem dnA_get {n p : Nat} (hp : p < n) (c : Nat → Nat) : (dnA n c).getD p .any = ai (c p) := map_range_getD hp _
theorem nd2 {b c : Nat} {x y : ABlk} {r : AHeap} (h : ((((b, x) :: (c, y) :: r : AHeap)).map (·.1)).Nodup) : ¬ b = c ∧ ¬ c = b ∧ ∀ z ∈ r, (¬ b = z.1 ∧ ¬ z.1 = b) ∧ ¬ c = z.1 ∧ ¬ z.1 = c := by
 simp only [List.map_cons, List.nodup_cons, List.mem_cons, not_or, List.mem_map, not_exists, not_and] at h
 obtain ⟨⟨h1, h2⟩, h3, _⟩ := h
 exact ⟨h1, fun e => h1 e.symm, fun z hz => ⟨⟨fun e => h2 z hz e.symm, h2 z hz⟩, fun e => h3 z hz e.symm, h3 z hz⟩⟩
theorem nd3 {b c d : Nat} {x y z : ABlk} {r : AHeap} (h : ((((b, x) :: (c, y) :: (d, z) :: r : AHeap)).map (·.1)).Nodup) : (¬ b = c ∧ ¬ c = b) ∧ (¬ b = d ∧ ¬ d = b) ∧ (¬ c = d ∧ ¬ d = c) ∧ ∀ w ∈ r, (¬ b = w.1 ∧ ¬ w.1 = b) ∧ (¬ c = w.1 ∧ ¬ w.1 = c) ∧ ¬ d = w.1 ∧ ¬ w.1 = d := by
 obtain ⟨h1, h2, h3⟩ := nd2 h
 rw [List.map_cons, List.nodup_cons] at h
 obtain ⟨h4, h5, h6⟩ := nd2 h.2
 exact ⟨⟨h1, h2⟩, (h3 (d, z) List.mem_cons_self).1, ⟨h4, h5⟩, fun w hw => ⟨(h3 w (List.mem_cons_of_mem _ hw)).1, (h6 w hw).1, (h6 w hw).2⟩⟩
end Go.AL
end
