/- Texts of this claim's proof: WPi, WVt, WVb, WJn, WPw. No condition. -/
import Derived.Test.YtceeooppejjliaaGreatDoorM10
import Derived.Test.YtceeooppejjliaaGreatDoorM9
import Derived.Test.YtceeooppejjliaaGreatDoorM8
import Derived.Test.YtceeooppejjliaaGreatDoorM7
import Derived.Test.YtceeooppejjliaaGreatDoorM6
section
namespace Go.AL
open Go Go.RowKit
set_option maxRecDepth 4000
theorem predtype_small (ps : List Pr) (hs : Sm ps) (hv : validF ps = true) (t : Pd) : szF t ≤ 1000000 → okT ps t = true → PC Proofs.Tryz.prog 194 [aTr ps, aPd t] (ab (fitB ps t)) := by
 induction t using Pd.ind with
 | _ k n p q s l ih =>
 intro hz ht
 have hsz : szF (.mk k n p q s l) = szL l + 1 := by rw [szF]
 have hll := szL_len l
 have hsp := fitB_mk ps k n p q s l
 have hr := predtype_result k
 have hbd := fun h => predtype_bounds ps hs hv (.mk k n p q s l) hz ht h
 have h1 : ∀ x ∈ l, PV Proofs.Tryz.prog (.clo 238 [.rp 1 [aTr ps] 0 0]) [aPd x] (ab (!fitB ps x)) := by
  intro x hx
  have hxi := szL_mem hx
  have hch := ih x hx (by omega) ((okT_sub ht).2.2.2 x hx).1
  generalize fitB ps x = b at *
  obtain ⟨k2, n2, p2, q2, s2, l2⟩ := x
  refine PC.clo ?_
  simp only [aPd_mk] at *
  refine PC.enter 8 [.tmp 3] [2] Proofs.Tryz.func238 rfl rfl rfl rfl rfl (by simp) (AWp.of ?_); simp only [go_sem]
  repeat (first | ((with_reducible refine AWp.ofC ?_ ?_); exact rfl; simp only [go_sem]) | ((with_reducible refine an ?_ ?_); exact Au))
  repeat ((with_reducible refine an ?_ ?_); exact As)
  refine (hch).val.use ?_; simp only [go_sem]
  repeat (first | ((with_reducible refine AWp.ofC ?_ ?_); exact rfl; simp only [go_sem]) | ((with_reducible refine an ?_ ?_); exact Au))
  refine ret_eq ?_; simp only [go_sem]
 have hc := preds_containsFunc l (by omega) _ rfl (fun x => !fitB ps x) h1
 have hall : l.all (fitB ps) = !l.any fun x => !fitB ps x := by rw [List.all_eq_not_any_not]
 rw [hall] at hsp
 generalize (l.any fun x => !fitB ps x) = c at *
 generalize fitB ps (.mk k n p q s l) = F at *
 simp only [Pd.kind] at hbd
 have hrk : resF k = 1 ↔ k ≤ 8 := by unfold resF; split <;> omega
 generalize resF k = r at *
 generalize intF ps (.mk k n p q s l) = I at *
 unfold aBd aIv at hbd
 simp only [aPd_mk] at *
 refine PC.enter 23 [.tmp 4] [2, 3, 5] Proofs.Tryz.func194 rfl rfl rfl rfl rfl (by simp) (AWp.of ?_); simp only [go_sem]
 repeat (first | ((with_reducible refine AWp.ofC ?_ ?_); exact rfl; simp only [go_sem]) | ((with_reducible refine an ?_ ?_); exact Au))
 repeat ((with_reducible refine an ?_ ?_); exact As)
 refine (hr).val.use ?_; simp only [go_sem]
 repeat (first | ((with_reducible refine AWp.ofC ?_ ?_); exact rfl; simp only [go_sem]) | ((with_reducible refine an ?_ ?_); exact Au))
 refine ⟨fun h2 => ?_, fun h2 => ?_⟩
 ·have hk := hrk.1 h2
  rw [if_pos hk] at hsp
  have hbd := hbd hk
  repeat (first | ((with_reducible refine AWp.ofC ?_ ?_); exact rfl; simp only [go_sem]) | ((with_reducible refine an ?_ ?_); exact Au))
  repeat ((with_reducible refine an ?_ ?_); exact As)
  refine (hbd).val.use ?_; simp only [go_sem]
  repeat (first | ((with_reducible refine AWp.ofC ?_ ?_); exact rfl; simp only [go_sem]) | ((with_reducible refine an ?_ ?_); exact Au))
  intro b5
  repeat (first | ((with_reducible refine AWp.ofC ?_ ?_); exact rfl; simp only [go_sem]) | ((with_reducible refine an ?_ ?_); exact Au))
  refine ret_eq ?_; simp only [go_sem]
  rw [hsp]
 ·rw [if_neg (fun h => h2 (hrk.2 h))] at hsp
  repeat (first | ((with_reducible refine AWp.ofC ?_ ?_); exact rfl; simp only [go_sem]) | ((with_reducible refine an ?_ ?_); exact Au))
  repeat ((with_reducible refine an ?_ ?_); exact As)
  refine (hc).val.use ?_; simp only [go_sem]
  repeat (first | ((with_reducible refine AWp.ofC ?_ ?_); exact rfl; simp only [go_sem]) | ((with_reducible refine an ?_ ?_); exact Au))
  refine ret_eq ?_; simp only [go_sem]
  rw [hsp]
theorem predtype_Check (ps : List Pr) (hs : Sm ps) (t : Pd) (hz : szF t ≤ 1000000) : PC Proofs.Tryz.prog 147 [aTr ps, aPd t] (ai (checkF ps t)) := by
 have h1 := trace_Valid ps hs
 have h2 := predtype_formed t hz
 have h3 := predtype_resolved ps hs t hz
 have h4 := predtype_typed t hz
 have h5 := fun h1 h2 => predtype_small ps hs h1 t hz h2
 have hsp : checkF ps t = if (validF ps && formedB t) = false then 1 else if allB (resB ps) t = false then 13 else if typedB t = false then 14 else if fitB ps t = false then 9 else 0 := rfl
 have hok : formedB t = true → allB (resB ps) t = true → typedB t = true → okT ps t = true := fun a b c => by
  unfold okT; unfold formedB at a; unfold typedB at c
  simp only [Bool.and_eq_true] at a ⊢
  exact ⟨⟨a.2, b⟩, c⟩
 generalize checkF ps t = r at *
 generalize okT ps t = O at *
 generalize validF ps = V at *
 generalize formedB t = F at *
 generalize allB (resB ps) t = R at *
 generalize typedB t = T at *
 generalize fitB ps t = S at *
 obtain ⟨k, n, p, q, s, l⟩ := t
 simp only [aPd_mk] at *
 refine PC.enter 28 [.tmp 4] [2, 3] Proofs.Tryz.func147 rfl rfl rfl rfl rfl (by simp) (AWp.of ?_); simp only [go_sem]
 repeat (first | ((with_reducible refine AWp.ofC ?_ ?_); exact rfl; simp only [go_sem]) | ((with_reducible refine an ?_ ?_); exact Au))
 repeat ((with_reducible refine an ?_ ?_); exact As)
 refine (h1).val.use ?_; simp only [go_sem]
 repeat ((with_reducible refine an ?_ ?_); exact As)
 refine GCall.use (ab F) (fun _ => ⟨At, (h2).val.use ⟨rfl, rfl⟩⟩) ?_; simp only [go_sem]
 repeat ((with_reducible refine an ?_ ?_); exact As)
 repeat (first | ((with_reducible refine AWp.ofC ?_ ?_); exact rfl; simp only [go_sem]) | ((with_reducible refine an ?_ ?_); exact Au))
 refine ⟨fun h6 => ?_, fun h6 => ?_⟩
 ·repeat (first | ((with_reducible refine AWp.ofC ?_ ?_); exact rfl; simp only [go_sem]) | ((with_reducible refine an ?_ ?_); exact Au))
  refine ret_eq ?_; simp only [go_sem]
  rw [hsp, if_pos (by cases V <;> simp_all)]
 intro h7
 rw [if_neg (by rw [h6, h7]; decide)] at hsp
 repeat (first | ((with_reducible refine AWp.ofC ?_ ?_); exact rfl; simp only [go_sem]) | ((with_reducible refine an ?_ ?_); exact Au))
 repeat ((with_reducible refine an ?_ ?_); exact As)
 refine (h3).val.use ?_; simp only [go_sem]
 repeat (first | ((with_reducible refine AWp.ofC ?_ ?_); exact rfl; simp only [go_sem]) | ((with_reducible refine an ?_ ?_); exact Au))
 refine ⟨fun h8 => ?_, fun h8 => ?_⟩
 ·repeat (first | ((with_reducible refine AWp.ofC ?_ ?_); exact rfl; simp only [go_sem]) | ((with_reducible refine an ?_ ?_); exact Au))
  refine ret_eq ?_; simp only [go_sem]
  rw [hsp, if_pos h8]
 rw [if_neg (by rw [h8]; decide)] at hsp
 repeat (first | ((with_reducible refine AWp.ofC ?_ ?_); exact rfl; simp only [go_sem]) | ((with_reducible refine an ?_ ?_); exact Au))
 repeat ((with_reducible refine an ?_ ?_); exact As)
 refine (h4).val.use ?_; simp only [go_sem]
 repeat (first | ((with_reducible refine AWp.ofC ?_ ?_); exact rfl; simp only [go_sem]) | ((with_reducible refine an ?_ ?_); exact Au))
 refine ⟨fun h9 => ?_, fun h9 => ?_⟩
 ·repeat (first | ((with_reducible refine AWp.ofC ?_ ?_); exact rfl; simp only [go_sem]) | ((with_reducible refine an ?_ ?_); exact Au))
  refine ret_eq ?_; simp only [go_sem]
  rw [hsp, if_pos h9]
 rw [if_neg (by rw [h9]; decide)] at hsp
 have h5 := h5 h6 (hok h7 h8 h9)
 repeat (first | ((with_reducible refine AWp.ofC ?_ ?_); exact rfl; simp only [go_sem]) | ((with_reducible refine an ?_ ?_); exact Au))
 repeat ((with_reducible refine an ?_ ?_); exact As)
 refine (h5).val.use ?_; simp only [go_sem]
 repeat (first | ((with_reducible refine AWp.ofC ?_ ?_); exact rfl; simp only [go_sem]) | ((with_reducible refine an ?_ ?_); exact Au))
 refine ⟨fun h10 => ?_, fun h10 => ?_⟩
 ·repeat (first | ((with_reducible refine AWp.ofC ?_ ?_); exact rfl; simp only [go_sem]) | ((with_reducible refine an ?_ ?_); exact Au))
  refine ret_eq ?_; simp only [go_sem]
  rw [hsp, if_pos h10]
 rw [if_neg (by rw [h10]; decide)] at hsp
 repeat (first | ((with_reducible refine AWp.ofC ?_ ?_); exact rfl; simp only [go_sem]) | ((with_reducible refine an ?_ ?_); exact Au))
 refine ret_eq ?_; simp only [go_sem]
 rw [hsp]
theorem ref28_kind (k n p q : Int) (s : ByteArray) (l : List Pd) : PC Proofs.Tryz.prog 177 [aPd (.mk k n p q s l)] (ai (resF k)) := by
 have hr : resF k = if k ≤ 8 then 1 else 2 := rfl
 generalize resF k = r at *
 refine PC.enter 6 [.tmp 2] [1] Proofs.Tryz.func177 rfl rfl rfl rfl rfl (by simp) (AWp.of ?_); simp only [go_sem]
 repeat (first | ((with_reducible refine AWp.ofC ?_ ?_); exact rfl; simp only [go_sem]) | ((with_reducible refine an ?_ ?_); exact Au))
 refine ⟨fun h1 => ?_, fun h1 => ?_⟩
 ·repeat (first | ((with_reducible refine AWp.ofC ?_ ?_); exact rfl; simp only [go_sem]) | ((with_reducible refine an ?_ ?_); exact Au))
  refine ret_eq ?_; simp only [go_sem]
  rw [hr, if_pos h1]
 ·repeat (first | ((with_reducible refine AWp.ofC ?_ ?_); exact rfl; simp only [go_sem]) | ((with_reducible refine an ?_ ?_); exact Au))
  refine ret_eq ?_; simp only [go_sem]
  rw [hr, if_neg h1]
theorem all_and2 {α : Type} (f g : α → Bool) (l : List α) : (l.all f && l.all g) = l.all fun x => f x && g x := by
 induction l with
 | nil => rfl
 | cons a r ih => rw [List.all_cons, List.all_cons, List.all_cons, ← ih]; cases f a <;> cases g a <;> cases r.all f <;> rfl
theorem ref28_typed (t : Pd) : szF t ≤ 1000000 → allB locB t = true → PC Proofs.Tryz.prog 123 [aPd t] (ab (allB typB t)) := by
 induction t using Pd.ind with
 | _ k n p q s l ih =>
 intro hz ht
 have hsz : szF (.mk k n p q s l) = szL l + 1 := by rw [szF]
 have hll := szL_len l
 obtain ⟨ht1, ht2⟩ := allB_sub ht
 obtain ⟨hpl, _⟩ := loc_len ht1
 have hsp : allB typB (.mk k n p q s l) = l.all fun x => !tyNe k x.kind && allB typB x := by
  rw [allB_mk]
  show ((!l.any fun x => tyNe k x.kind) && l.all (allB typB)) = _
  rw [List.not_any_eq_all_not, all_and2]
 generalize allB typB (.mk k n p q s l) = B at *
 obtain ⟨pB, hpB⟩ : ∃ pB : Pd → Bool, pB = fun x => !tyNe k x.kind && allB typB x := ⟨_, rfl⟩
 rw [← hpB] at hsp
 refine PC.enter 32 [.tmp 2] [1] Proofs.Tryz.func123 rfl rfl rfl rfl rfl (by simp) (AWp.of ?_); simp only [go_sem]
 repeat (first | ((with_reducible refine AWp.ofC ?_ ?_); exact rfl; simp only [go_sem]) | ((with_reducible refine an ?_ ?_); exact Au))
 refine AWp.block (AWp.count 3 l.length [] [1] (fun i vs L => L = [] ∧ ∀ j (hj : j < l.length), j < i → pB l[j] = true) rfl rfl ⟨rfl, by omega⟩ ?_)
 rintro i vs L hi - ⟨rfl, hI⟩
 simp only [go_sem]
 repeat (first | ((with_reducible refine AWp.ofC ?_ ?_); exact rfl; simp only [go_sem]) | ((with_reducible refine an ?_ ?_); exact Au))
 refine ⟨fun h4 => ?_, fun h4 => ?_⟩
 ·have hil : i < l.length := by omega
  have hk : needF k = if 15 ≤ k then 2 else 1 := by
   unfold needF
   rcases parts_cases k with ⟨e, hc⟩ | ⟨e, hc⟩ | ⟨e, hc⟩ | e
   ·omega
   ·split <;> split <;> omega
   ·split <;> split <;> omega
   ·omega
  have hgi := getD_map (f := aPd) hil
  have hzi := szL_mem (List.getElem_mem hil)
  have hch := ih l[i] (List.getElem_mem hil) (by omega) (ht2 _ (List.getElem_mem hil))
  have hnx := all_next (f := pB) hI hil
  have hno := all_not (f := pB) hil
  have hxt : pB l[i] = true ↔ resF l[i].kind = needF k ∧ allB typB l[i] = true := by rw [hpB]; simp only [tyNe, Bool.and_eq_true, Bool.not_eq_true', decide_eq_false_iff_not, Decidable.not_not]
  generalize l[i] = x at *
  generalize allB typB x = bx at *
  obtain ⟨k2, n2, p2, q2, s2, l2⟩ := x
  have hkd := ref28_kind k2 n2 p2 q2 s2 l2
  simp only [aPd_mk, Pd.kind] at hgi hch hkd hxt
  generalize resF k2 = r at *
  by_cases h15 : 15 ≤ k
  ·have hk : needF k = 2 := by rw [hk, if_pos h15]
   rw [hk] at hxt
   repeat (first | ((with_reducible refine AWp.ofC ?_ ?_); exact rfl; simp only [go_sem, (eq_true h15), hgi]) | ((with_reducible refine an ?_ ?_); exact Au))
   repeat ((with_reducible refine an ?_ ?_); exact As)
   refine (hkd).val.use ?_; simp only [go_sem, hgi]
   repeat ((with_reducible refine an ?_ ?_); exact As)
   refine GCall.use (ab bx) (fun _ => ⟨At, (hch).val.use ⟨rfl, rfl⟩⟩) ?_; simp only [go_sem]
   repeat ((with_reducible refine an ?_ ?_); exact As)
   repeat (first | ((with_reducible refine AWp.ofC ?_ ?_); exact rfl; simp only [go_sem]) | ((with_reducible refine an ?_ ?_); exact Au))
   refine ⟨fun h5 => ?_, fun h5 => ?_⟩
   ·repeat (first | ((with_reducible refine AWp.ofC ?_ ?_); exact rfl; simp only [go_sem]) | ((with_reducible refine an ?_ ?_); exact Au))
    refine ret_eq ?_; simp only [go_sem]
    rw [hsp, hno (by rw [← Bool.not_eq_true, hxt]; rintro ⟨e1, e2⟩; rcases h5 with h5 | h5; exact h5 e1; rw [h5] at e2; cases e2)]
   ·intro h6
    repeat (first | ((with_reducible refine AWp.ofC ?_ ?_); exact rfl; simp only [go_sem]) | ((with_reducible refine an ?_ ?_); exact Au))
    exact ⟨_, List.Sublist.refl _, rfl, hnx (hxt.2 ⟨h5, h6⟩)⟩
  ·have hk : needF k = 1 := by rw [hk, if_neg h15]
   rw [hk] at hxt
   repeat (first | ((with_reducible refine AWp.ofC ?_ ?_); exact rfl; simp only [go_sem, h15, hgi]) | ((with_reducible refine an ?_ ?_); exact Au))
   repeat ((with_reducible refine an ?_ ?_); exact As)
   refine (hkd).val.use ?_; simp only [go_sem, hgi]
   repeat ((with_reducible refine an ?_ ?_); exact As)
   refine GCall.use (ab bx) (fun _ => ⟨At, (hch).val.use ⟨rfl, rfl⟩⟩) ?_; simp only [go_sem]
   repeat ((with_reducible refine an ?_ ?_); exact As)
   repeat (first | ((with_reducible refine AWp.ofC ?_ ?_); exact rfl; simp only [go_sem]) | ((with_reducible refine an ?_ ?_); exact Au))
   refine ⟨fun h5 => ?_, fun h5 => ?_⟩
   ·repeat (first | ((with_reducible refine AWp.ofC ?_ ?_); exact rfl; simp only [go_sem]) | ((with_reducible refine an ?_ ?_); exact Au))
    refine ret_eq ?_; simp only [go_sem]
    rw [hsp, hno (by rw [← Bool.not_eq_true, hxt]; rintro ⟨e1, e2⟩; rcases h5 with h5 | h5; exact h5 e1; rw [h5] at e2; cases e2)]
   ·intro h6
    repeat (first | ((with_reducible refine AWp.ofC ?_ ?_); exact rfl; simp only [go_sem]) | ((with_reducible refine an ?_ ?_); exact Au))
    exact ⟨_, List.Sublist.refl _, rfl, hnx (hxt.2 ⟨h5, h6⟩)⟩
 ·repeat (first | ((with_reducible refine AWp.ofC ?_ ?_); exact rfl; simp only [go_sem]) | ((with_reducible refine an ?_ ?_); exact Au))
  refine ret_eq ?_; simp only [go_sem]
  rw [hsp, all_of hI (by omega)]
theorem ref28_fits (ps : List Pr) (hs : Sm ps) (hv : validF ps = true) (t : Pd) : szF t ≤ 1000000 → okT ps t = true → PC Proofs.Tryz.prog 124 [aTr ps, aPd t] (ab (fitB ps t)) := by
 induction t using Pd.ind with
 | _ k n p q s l ih =>
 intro hz ht
 have hsz : szF (.mk k n p q s l) = szL l + 1 := by rw [szF]
 have hll := szL_len l
 have hsp := fitB_mk ps k n p q s l
 have hr := ref28_kind k n p q s l
 have hbd := fun h => ref28_interval ps hs hv (.mk k n p q s l) hz ht h
 generalize fitB ps (.mk k n p q s l) = F at *
 simp only [Pd.kind] at hbd
 have hrk : resF k = 1 ↔ k ≤ 8 := by unfold resF; split <;> omega
 generalize resF k = r at *
 generalize intF ps (.mk k n p q s l) = I at *
 unfold aBd3 at hbd
 simp only [aPd_mk] at hr hbd
 refine PC.enter 35 [.tmp 4] [2, 3] Proofs.Tryz.func124 rfl rfl rfl rfl rfl (by simp) (AWp.of ?_); simp only [go_sem]
 repeat (first | ((with_reducible refine AWp.ofC ?_ ?_); exact rfl; simp only [go_sem]) | ((with_reducible refine an ?_ ?_); exact Au))
 repeat ((with_reducible refine an ?_ ?_); exact As)
 refine (hr).val.use ?_; simp only [go_sem]
 repeat (first | ((with_reducible refine AWp.ofC ?_ ?_); exact rfl; simp only [go_sem]) | ((with_reducible refine an ?_ ?_); exact Au))
 refine ⟨fun h2 => ?_, fun h2 => ?_⟩
 ·have hk := hrk.1 h2
  rw [if_pos hk] at hsp
  have hbd := hbd hk
  repeat (first | ((with_reducible refine AWp.ofC ?_ ?_); exact rfl; simp only [go_sem]) | ((with_reducible refine an ?_ ?_); exact Au))
  repeat ((with_reducible refine an ?_ ?_); exact As)
  refine (hbd).val.use ?_; simp only [go_sem]
  repeat (first | ((with_reducible refine AWp.ofC ?_ ?_); exact rfl; simp only [go_sem]) | ((with_reducible refine an ?_ ?_); exact Au))
  refine ret_eq ?_; simp only [go_sem]
  rw [hsp]
 rw [if_neg (fun h => h2 (hrk.2 h))] at hsp
 repeat (first | ((with_reducible refine AWp.ofC ?_ ?_); exact rfl; simp only [go_sem]) | ((with_reducible refine an ?_ ?_); exact Au))
 refine AWp.block (AWp.count 8 l.length [] [2, 3] (fun i vs L => L = [] ∧ ∀ j (hj : j < l.length), j < i → fitB ps l[j] = true) rfl rfl ⟨rfl, by omega⟩ ?_)
 rintro i vs L hi - ⟨rfl, hI⟩
 simp only [go_sem]
 repeat (first | ((with_reducible refine AWp.ofC ?_ ?_); exact rfl; simp only [go_sem]) | ((with_reducible refine an ?_ ?_); exact Au))
 refine ⟨fun h4 => ?_, fun h4 => ?_⟩
 ·have hil : i < l.length := by omega
  have hgi := getD_map (f := aPd) hil
  have hzi := szL_mem (List.getElem_mem hil)
  have hch := ih l[i] (List.getElem_mem hil) (by omega) ((okT_sub ht).2.2.2 _ (List.getElem_mem hil)).1
  have hnx := all_next hI hil
  have hno := all_not (f := fitB ps) hil
  generalize l[i] = x at *
  generalize fitB ps x = bx at *
  obtain ⟨k2, n2, p2, q2, s2, l2⟩ := x
  simp only [aPd_mk] at hgi hch
  refine AWp.seq (AWp.block (AWp.seq ?_))
  refine AWp.mix mixed [0, 1, 2, 3, 4, 5, 6, 7] .done (by kernel_rfl) ?_; simp only [go_sem, hgi]
  repeat ((with_reducible refine an ?_ ?_); exact As)
  refine GCall.use (ab bx) (fun _ => ⟨At, (hch).val.use ⟨rfl, rfl⟩⟩) ?_; simp only [go_sem]
  repeat ((with_reducible refine an ?_ ?_); exact As)
  repeat (first | ((with_reducible refine AWp.ofC ?_ ?_); exact rfl; simp only [go_sem]) | ((with_reducible refine an ?_ ?_); exact Au))
  refine ⟨fun h5 => ?_, fun h5 => ?_⟩
  ·repeat (first | ((with_reducible refine AWp.ofC ?_ ?_); exact rfl; simp only [go_sem]) | ((with_reducible refine an ?_ ?_); exact Au))
   refine ret_eq ?_; simp only [go_sem]
   rw [hsp, hno h5]
  ·repeat (first | ((with_reducible refine AWp.ofC ?_ ?_); exact rfl; simp only [go_sem]) | ((with_reducible refine an ?_ ?_); exact Au))
   exact ⟨_, List.Sublist.refl _, rfl, hnx h5⟩
 ·repeat (first | ((with_reducible refine AWp.ofC ?_ ?_); exact rfl; simp only [go_sem]) | ((with_reducible refine an ?_ ?_); exact Au))
  refine ret_eq ?_; simp only [go_sem]
  rw [hsp, all_of hI (by omega)]
theorem ref28_Check (ps : List Pr) (hs : Sm ps) (t : Pd) (hz : szF t ≤ 1000000) : PC Proofs.Tryz.prog 63 [aTr ps, aPd t] (ai (checkF ps t)) := by
 have h1 := ref12_Valid ps hs
 have h2 := ref28_Formed t hz
 have h3 := ref28_Resolved ps hs t hz
 have h4 : formedB t = true → PC Proofs.Tryz.prog 123 [aPd t] (ab (typedB t)) := fun h => by
  unfold formedB at h; simp only [Bool.and_eq_true] at h
  exact ref28_typed t hz h.2
 have h5 := fun h1 h2 => ref28_fits ps hs h1 t hz h2
 have hsp : checkF ps t = if (validF ps && formedB t) = false then 1 else if allB (resB ps) t = false then 13 else if typedB t = false then 14 else if fitB ps t = false then 9 else 0 := rfl
 have hok : formedB t = true → allB (resB ps) t = true → typedB t = true → okT ps t = true := fun a b c => by
  unfold okT; unfold formedB at a; unfold typedB at c
  simp only [Bool.and_eq_true] at a ⊢
  exact ⟨⟨a.2, b⟩, c⟩
 generalize checkF ps t = r at *
 generalize okT ps t = O at *
 generalize validF ps = V at *
 generalize formedB t = F at *
 generalize allB (resB ps) t = R at *
 generalize typedB t = T at *
 generalize fitB ps t = S at *
 obtain ⟨k, n, p, q, s, l⟩ := t
 simp only [aPd_mk] at *
 refine PC.enter 24 [.tmp 4] [2, 3] Proofs.Tryz.func63 rfl rfl rfl rfl rfl (by simp) (AWp.of ?_); simp only [go_sem]
 repeat (first | ((with_reducible refine AWp.ofC ?_ ?_); exact rfl; simp only [go_sem]) | ((with_reducible refine an ?_ ?_); exact Au))
 repeat ((with_reducible refine an ?_ ?_); exact As)
 refine (h1).val.use ?_; simp only [go_sem]
 repeat ((with_reducible refine an ?_ ?_); exact As)
 refine GCall.use (ab F) (fun _ => ⟨At, (h2).val.use ⟨rfl, rfl⟩⟩) ?_; simp only [go_sem]
 repeat ((with_reducible refine an ?_ ?_); exact As)
 repeat (first | ((with_reducible refine AWp.ofC ?_ ?_); exact rfl; simp only [go_sem]) | ((with_reducible refine an ?_ ?_); exact Au))
 refine ⟨fun h6 => ?_, fun h6 => ?_⟩
 ·repeat (first | ((with_reducible refine AWp.ofC ?_ ?_); exact rfl; simp only [go_sem]) | ((with_reducible refine an ?_ ?_); exact Au))
  refine ret_eq ?_; simp only [go_sem]
  rw [hsp, if_pos (by cases V <;> simp_all)]
 intro h7
 rw [if_neg (by rw [h6, h7]; decide)] at hsp
 have h4 := h4 h7
 repeat (first | ((with_reducible refine AWp.ofC ?_ ?_); exact rfl; simp only [go_sem]) | ((with_reducible refine an ?_ ?_); exact Au))
 repeat ((with_reducible refine an ?_ ?_); exact As)
 refine (h3).val.use ?_; simp only [go_sem]
 repeat (first | ((with_reducible refine AWp.ofC ?_ ?_); exact rfl; simp only [go_sem]) | ((with_reducible refine an ?_ ?_); exact Au))
 refine ⟨fun h8 => ?_, fun h8 => ?_⟩
 ·repeat (first | ((with_reducible refine AWp.ofC ?_ ?_); exact rfl; simp only [go_sem]) | ((with_reducible refine an ?_ ?_); exact Au))
  refine ret_eq ?_; simp only [go_sem]
  rw [hsp, if_pos h8]
 rw [if_neg (by rw [h8]; decide)] at hsp
 repeat (first | ((with_reducible refine AWp.ofC ?_ ?_); exact rfl; simp only [go_sem]) | ((with_reducible refine an ?_ ?_); exact Au))
 repeat ((with_reducible refine an ?_ ?_); exact As)
 refine (h4).val.use ?_; simp only [go_sem]
 repeat (first | ((with_reducible refine AWp.ofC ?_ ?_); exact rfl; simp only [go_sem]) | ((with_reducible refine an ?_ ?_); exact Au))
 refine ⟨fun h9 => ?_, fun h9 => ?_⟩
 ·repeat (first | ((with_reducible refine AWp.ofC ?_ ?_); exact rfl; simp only [go_sem]) | ((with_reducible refine an ?_ ?_); exact Au))
  refine ret_eq ?_; simp only [go_sem]
  rw [hsp, if_pos h9]
 rw [if_neg (by rw [h9]; decide)] at hsp
 have h5 := h5 h6 (hok h7 h8 h9)
 repeat (first | ((with_reducible refine AWp.ofC ?_ ?_); exact rfl; simp only [go_sem]) | ((with_reducible refine an ?_ ?_); exact Au))
 repeat ((with_reducible refine an ?_ ?_); exact As)
 refine (h5).val.use ?_; simp only [go_sem]
 repeat (first | ((with_reducible refine AWp.ofC ?_ ?_); exact rfl; simp only [go_sem]) | ((with_reducible refine an ?_ ?_); exact Au))
 refine ⟨fun h10 => ?_, fun h10 => ?_⟩
 ·repeat (first | ((with_reducible refine AWp.ofC ?_ ?_); exact rfl; simp only [go_sem]) | ((with_reducible refine an ?_ ?_); exact Au))
  refine ret_eq ?_; simp only [go_sem]
  rw [hsp, if_pos h10]
 rw [if_neg (by rw [h10]; decide)] at hsp
 repeat (first | ((with_reducible refine AWp.ofC ?_ ?_); exact rfl; simp only [go_sem]) | ((with_reducible refine an ?_ ?_); exact Au))
 refine ret_eq ?_; simp only [go_sem]
 rw [hsp]
end Go.AL
end
section
namespace Go.AL
open Go Go.RowKit
set_option maxRecDepth 4000
theorem fit_child {ps : List Pr} {k n p q : Int} {s : ByteArray} {l : List Pd} (h : fitB ps (.mk k n p q s l) = true) (hk : 9 ≤ k) : ∀ x ∈ l, fitB ps x = true := by
 rw [fitB_mk, if_neg (by omega), List.all_eq_true] at h; exact h
theorem fit_int {ps : List Pr} {x : Pd} (h : fitB ps x = true) (hk : x.kind ≤ 8) : (intF ps x).2.2 = true := by
 obtain ⟨k, n, p, q, s, l⟩ := x
 simp only [Pd.kind] at hk
 rw [fitB_mk, if_pos hk] at h; exact h
theorem view_truth (ps : List Pr) (c : List Int) (V : List (List Int)) (o : Obs) (hcl : c.length ≤ 1000000) (t : Pd) : szF t ≤ 1000000 → okT ps t = true → 9 ≤ t.kind → fitB ps t = true → allB ntmB t = true → AllP (obsB ps o) t → AllP (leafOk ps c V o) t →
  PC Proofs.Tryz.prog 151 [aView ps c V, aPd t] (ab (truF o t)) := by
 induction t using Pd.ind with
 | _ k n p q s l ih =>
 intro hz ht hk hi htm hob hlf
 obtain ⟨o1, o2, o3, o4⟩ := okT_sub ht
 obtain ⟨hpl, _⟩ := loc_len o1
 simp only [Pd.kind] at hk
 obtain ⟨ht1, ht2⟩ := allB_sub htm
 have hnt : ¬ (18 ≤ k ∧ k ≤ 21) := by unfold ntmB tempB at ht1; simp at ht1; omega
 have hsz : szF (.mk k n p q s l) = szL l + 1 := by rw [szF]
 have hsp := truF_mk o k n p q s l
 have hfc := fit_child hi hk
 obtain ⟨_, hls⟩ := AllP_sub hlf
 obtain ⟨_, hos⟩ := AllP_sub hob
 generalize truF o (.mk k n p q s l) = R at *
 unfold truN at hsp
 by_cases h12 : k ≤ 12
 ·have hch := child_le ht h12
  obtain ⟨a, b, rfl⟩ := len2 (l := l) (by rcases parts_cases k with ⟨e, hc⟩ | ⟨e, hc⟩ | ⟨e, hc⟩ | e <;> omega)
  obtain ⟨c1, c2⟩ := hch a (by simp)
  obtain ⟨c3, c4⟩ := hch b (by simp)
  have hza := szL_mem (l := [a, b]) (x := a) (by simp)
  have hzb := szL_mem (l := [a, b]) (x := b) (by simp)
  have hca := view_number ps c V o hcl a (by omega) c1 c2 (fit_int (hfc a (by simp)) c2) (hos a (by simp)) (hls a (by simp))
  have hcc := view_number ps c V o hcl b (by omega) c3 c4 (fit_int (hfc b (by simp)) c4) (hos b (by simp)) (hls b (by simp))
  simp only [List.map_cons, List.map_nil, List.getD_cons_zero, List.getD_cons_succ] at hsp
  generalize valF o a = A at *
  generalize valF o b = B at *
  clear ih hlf hls hob hos htm ht2 hch hfc
  unfold aView at *
  obtain ⟨ka, na, pa, qa, sa, la⟩ := a
  obtain ⟨kb, nb, pb, qb, sb, lb⟩ := b
  simp only [aPd_mk, List.map_cons, List.map_nil] at *
  refine PC.enter 112 [.tmp 4] [2, 3] Proofs.Tryz.func151 rfl rfl rfl rfl rfl (by simp) (AWp.of ?_); simp only [go_sem]
  by_cases h9 : k = 9
  ·rw [if_pos h9] at hsp
   repeat (first | ((with_reducible refine AWp.ofC ?_ ?_); exact rfl; simp only [go_sem, (eq_true h9)]) | ((with_reducible refine an ?_ ?_); exact Au))
   refine AWp.mix mixed [0, 1, 2, 3, 4, 5, 6, 7, 8, 9, 10, 11, 12, 13] .done (by kernel_rfl) ?_; simp only [go_sem]
   repeat ((with_reducible refine an ?_ ?_); exact As)
   refine GCall.use (ai A) (fun _ => ⟨At, (hca).val.use ⟨rfl, rfl⟩⟩) ?_; simp only [go_sem]
   repeat ((with_reducible refine an ?_ ?_); exact As)
   refine GCall.use (ai B) (fun _ => ⟨At, (hcc).val.use ⟨rfl, rfl⟩⟩) ?_; simp only [go_sem]
   repeat ((with_reducible refine an ?_ ?_); exact As)
   repeat (first | ((with_reducible refine AWp.ofC ?_ ?_); exact rfl; simp only [go_sem]) | ((with_reducible refine an ?_ ?_); exact Au))
   refine ret_eq ?_; simp only [go_sem]
   rw [hsp]
  by_cases h10 : k = 10
  ·rw [if_neg h9, if_pos h10] at hsp
   repeat (first | ((with_reducible refine AWp.ofC ?_ ?_); exact rfl; simp only [go_sem, (eq_true h10), h9]) | ((with_reducible refine an ?_ ?_); exact Au))
   refine AWp.mix mixed [0, 1, 2, 3, 4, 5, 6, 7, 8, 9, 10, 11, 12, 13] .done (by kernel_rfl) ?_; simp only [go_sem]
   repeat ((with_reducible refine an ?_ ?_); exact As)
   refine GCall.use (ai A) (fun _ => ⟨At, (hca).val.use ⟨rfl, rfl⟩⟩) ?_; simp only [go_sem]
   repeat ((with_reducible refine an ?_ ?_); exact As)
   refine GCall.use (ai B) (fun _ => ⟨At, (hcc).val.use ⟨rfl, rfl⟩⟩) ?_; simp only [go_sem]
   repeat ((with_reducible refine an ?_ ?_); exact As)
   repeat (first | ((with_reducible refine AWp.ofC ?_ ?_); exact rfl; simp only [go_sem]) | ((with_reducible refine an ?_ ?_); exact Au))
   refine ret_eq ?_; simp only [go_sem]
   rw [hsp]
  by_cases h11 : k = 11
  ·rw [if_neg h9, if_neg h10, if_pos h11] at hsp
   repeat (first | ((with_reducible refine AWp.ofC ?_ ?_); exact rfl; simp only [go_sem, (eq_true h11), h9, h10]) | ((with_reducible refine an ?_ ?_); exact Au))
   refine AWp.mix mixed [0, 1, 2, 3, 4, 5, 6, 7, 8, 9, 10, 11, 12, 13] .done (by kernel_rfl) ?_; simp only [go_sem]
   repeat ((with_reducible refine an ?_ ?_); exact As)
   refine GCall.use (ai A) (fun _ => ⟨At, (hca).val.use ⟨rfl, rfl⟩⟩) ?_; simp only [go_sem]
   repeat ((with_reducible refine an ?_ ?_); exact As)
   refine GCall.use (ai B) (fun _ => ⟨At, (hcc).val.use ⟨rfl, rfl⟩⟩) ?_; simp only [go_sem]
   repeat ((with_reducible refine an ?_ ?_); exact As)
   repeat (first | ((with_reducible refine AWp.ofC ?_ ?_); exact rfl; simp only [go_sem]) | ((with_reducible refine an ?_ ?_); exact Au))
   refine ret_eq ?_; simp only [go_sem]
   rw [hsp]
  have h12 : k = 12 := by omega
  rw [if_neg h9, if_neg h10, if_neg h11, if_pos h12] at hsp
  repeat (first | ((with_reducible refine AWp.ofC ?_ ?_); exact rfl; simp only [go_sem, (eq_true h12), h9, h10, h11]) | ((with_reducible refine an ?_ ?_); exact Au))
  refine AWp.mix mixed [0, 1, 2, 3, 4, 5, 6, 7, 8, 9, 10, 11, 12, 13] .done (by kernel_rfl) ?_; simp only [go_sem]
  repeat ((with_reducible refine an ?_ ?_); exact As)
  refine GCall.use (ai A) (fun _ => ⟨At, (hca).val.use ⟨rfl, rfl⟩⟩) ?_; simp only [go_sem]
  repeat ((with_reducible refine an ?_ ?_); exact As)
  refine GCall.use (ai B) (fun _ => ⟨At, (hcc).val.use ⟨rfl, rfl⟩⟩) ?_; simp only [go_sem]
  repeat ((with_reducible refine an ?_ ?_); exact As)
  repeat (first | ((with_reducible refine AWp.ofC ?_ ?_); exact rfl; simp only [go_sem]) | ((with_reducible refine an ?_ ?_); exact Au))
  refine ret_eq ?_; simp only [go_sem]
  rw [hsp]
 have h9 : ¬ k = 9 := by omega
 have h10 : ¬ k = 10 := by omega
 have h11 : ¬ k = 11 := by omega
 have h12 : ¬ k = 12 := by omega
 rw [if_neg h9, if_neg h10, if_neg h11, if_neg h12] at hsp
 have hch := child_bool ht (by omega)
 rcases parts_cases k with ⟨e, hc⟩ | ⟨e, hc⟩ | ⟨e, hc⟩ | e
 ·obtain rfl := len0 (l := l) (by omega)
  unfold aView
  simp only [aPd_mk, List.map_nil] at *
  refine PC.enter 112 [.tmp 4] [2, 3] Proofs.Tryz.func151 rfl rfl rfl rfl rfl (by simp) (AWp.of ?_); simp only [go_sem]
  by_cases h13 : k = 13
  ·rw [if_pos h13] at hsp
   repeat (first | ((with_reducible refine AWp.ofC ?_ ?_); exact rfl; simp only [go_sem, (eq_true h13), h9, h10, h11, h12]) | ((with_reducible refine an ?_ ?_); exact Au))
   refine ret_eq ?_; simp only [go_sem]
   rw [hsp]
  ·have h14 : k = 14 := by omega
   rw [if_neg h13, if_pos h14] at hsp
   repeat (first | ((with_reducible refine AWp.ofC ?_ ?_); exact rfl; simp only [go_sem, (eq_true h14), h9, h10, h11, h12, h13]) | ((with_reducible refine an ?_ ?_); exact Au))
   refine ret_eq ?_; simp only [go_sem]
   rw [hsp]
 ·obtain ⟨a, rfl⟩ := len1 (l := l) (by omega)
  have h13 : ¬ k = 13 := by omega
  have h14 : ¬ k = 14 := by omega
  have h15 : k = 15 := by omega
  obtain ⟨c1, c2⟩ := hch a (by simp)
  have hza := szL_mem (l := [a]) (x := a) (by simp)
  have hca := ih a (by simp) (by omega) c1 c2 (hfc a (by simp)) (ht2 a (by simp)) (hos a (by simp)) (hls a (by simp))
  simp only [List.map_cons, List.map_nil, List.getD_cons_zero, if_neg h13, if_neg h14, if_pos h15] at hsp
  generalize truF o a = A at *
  clear ih hlf hls hob hos htm ht2 hch hfc
  unfold aView at *
  obtain ⟨ka, na, pa, qa, sa, la⟩ := a
  simp only [aPd_mk, List.map_cons, List.map_nil] at *
  refine PC.enter 112 [.tmp 4] [2, 3] Proofs.Tryz.func151 rfl rfl rfl rfl rfl (by simp) (AWp.of ?_); simp only [go_sem]
  repeat (first | ((with_reducible refine AWp.ofC ?_ ?_); exact rfl; simp only [go_sem, (eq_true h15), h9, h10, h11, h12, h13, h14]) | ((with_reducible refine an ?_ ?_); exact Au))
  refine AWp.mix mixed [0, 1, 2, 3, 4, 5, 6, 7] .done (by kernel_rfl) ?_; simp only [go_sem]
  repeat ((with_reducible refine an ?_ ?_); exact As)
  refine GCall.use (ab A) (fun _ => ⟨At, (hca).val.use ⟨rfl, rfl⟩⟩) ?_; simp only [go_sem]
  repeat ((with_reducible refine an ?_ ?_); exact As)
  repeat (first | ((with_reducible refine AWp.ofC ?_ ?_); exact rfl; simp only [go_sem]) | ((with_reducible refine an ?_ ?_); exact Au))
  refine ret_eq ?_; simp only [go_sem]
  rw [hsp]
 ·obtain ⟨a, b, rfl⟩ := len2 (l := l) (by omega)
  have h13 : ¬ k = 13 := by omega
  have h14 : ¬ k = 14 := by omega
  have h15 : ¬ k = 15 := by omega
  obtain ⟨c1, c2⟩ := hch a (by simp)
  obtain ⟨c3, c4⟩ := hch b (by simp)
  have hza := szL_mem (l := [a, b]) (x := a) (by simp)
  have hzb := szL_mem (l := [a, b]) (x := b) (by simp)
  have hca := ih a (by simp) (by omega) c1 c2 (hfc a (by simp)) (ht2 a (by simp)) (hos a (by simp)) (hls a (by simp))
  have hcc := ih b (by simp) (by omega) c3 c4 (hfc b (by simp)) (ht2 b (by simp)) (hos b (by simp)) (hls b (by simp))
  simp only [List.map_cons, List.map_nil, List.getD_cons_zero, List.getD_cons_succ, if_neg h13, if_neg h14, if_neg h15] at hsp
  generalize truF o a = A at *
  generalize truF o b = B at *
  clear ih hlf hls hob hos htm ht2 hch hfc
  unfold aView at *
  obtain ⟨ka, na, pa, qa, sa, la⟩ := a
  obtain ⟨kb, nb, pb, qb, sb, lb⟩ := b
  simp only [aPd_mk, List.map_cons, List.map_nil] at *
  refine PC.enter 112 [.tmp 4] [2, 3] Proofs.Tryz.func151 rfl rfl rfl rfl rfl (by simp) (AWp.of ?_); simp only [go_sem]
  by_cases h16 : k = 16
  ·rw [if_pos h16] at hsp
   repeat (first | ((with_reducible refine AWp.ofC ?_ ?_); exact rfl; simp only [go_sem, (eq_true h16), h9, h10, h11, h12, h13, h14, h15]) | ((with_reducible refine an ?_ ?_); exact Au))
   refine AWp.mix mixed [0, 1, 2, 3, 4, 5, 6, 7, 8, 9, 10, 11, 12, 13, 14] .done (by kernel_rfl) ?_; simp only [go_sem]
   repeat ((with_reducible refine an ?_ ?_); exact As)
   refine GCall.use (ab A) (fun _ => ⟨At, (hca).val.use ⟨rfl, rfl⟩⟩) ?_; simp only [go_sem]
   repeat ((with_reducible refine an ?_ ?_); exact As)
   refine GCall.use (ab B) (fun _ => ⟨At, (hcc).val.use ⟨rfl, rfl⟩⟩) ?_; simp only [go_sem]
   repeat ((with_reducible refine an ?_ ?_); exact As)
   repeat (first | ((with_reducible refine AWp.ofC ?_ ?_); exact rfl; simp only [go_sem]) | ((with_reducible refine an ?_ ?_); exact Au))
   refine ret_eq ?_; simp only [go_sem]
   rw [hsp]
  ·rw [if_neg h16] at hsp
   repeat (first | ((with_reducible refine AWp.ofC ?_ ?_); exact rfl; simp only [go_sem, h9, h10, h11, h12, h13, h14, h15, h16]) | ((with_reducible refine an ?_ ?_); exact Au))
   refine AWp.seq ?_
   refine AWp.mix mixed [0, 1, 2, 3, 4, 5, 6, 7, 8, 9, 10, 11, 12, 13, 14] .done (by kernel_rfl) ?_; simp only [go_sem]
   repeat ((with_reducible refine an ?_ ?_); exact As)
   refine GCall.use (ab A) (fun _ => ⟨At, (hca).val.use ⟨rfl, rfl⟩⟩) ?_; simp only [go_sem]
   repeat ((with_reducible refine an ?_ ?_); exact As)
   refine GCall.use (ab B) (fun _ => ⟨At, (hcc).val.use ⟨rfl, rfl⟩⟩) ?_; simp only [go_sem]
   repeat ((with_reducible refine an ?_ ?_); exact As)
   repeat (first | ((with_reducible refine AWp.ofC ?_ ?_); exact rfl; simp only [go_sem]) | ((with_reducible refine an ?_ ?_); exact Au))
   refine ret_eq ?_; simp only [go_sem]
   rw [hsp]
 ·omega
end Go.AL
end
section
namespace Go.AL
open Go Go.RowKit
set_option maxRecDepth 4000
theorem evaluate_typed (t : Pd) (hz : szF t ≤ 1000000) (h1 : formedB t = true) (h2 : typedB t = true) (w : Int) : PC Proofs.Tryz.prog 148 [aPd t, ai w] (ai (if resF t.kind = w then 0 else 14)) := by
 have ht := predtype_TypeX t hz
 rw [h1, h2] at ht
 rw [if_neg (by decide), if_neg (by decide), if_neg (by decide), if_neg (by decide)] at ht
 generalize resF t.kind = r at *
 obtain ⟨k, n, p, q, s, l⟩ := t
 simp only [aPd_mk] at *
 refine PC.enter 19 [.tmp 4] [2] Proofs.Tryz.func148 rfl rfl rfl rfl rfl (by simp) (AWp.of ?_); simp only [go_sem]
 repeat (first | ((with_reducible refine AWp.ofC ?_ ?_); exact rfl; simp only [go_sem]) | ((with_reducible refine an ?_ ?_); exact Au))
 repeat ((with_reducible refine an ?_ ?_); exact As)
 refine (ht).val.use ?_; simp only [go_sem]
 repeat (first | ((with_reducible refine AWp.ofC ?_ ?_); exact rfl; simp only [go_sem]) | ((with_reducible refine an ?_ ?_); exact Au))
 refine ⟨fun h3 => ?_, fun h3 => ?_⟩
 ·repeat (first | ((with_reducible refine AWp.ofC ?_ ?_); exact rfl; simp only [go_sem]) | ((with_reducible refine an ?_ ?_); exact Au))
  refine ret_eq ?_; simp only [go_sem]
  rw [if_neg h3]
 ·repeat (first | ((with_reducible refine AWp.ofC ?_ ?_); exact rfl; simp only [go_sem]) | ((with_reducible refine an ?_ ?_); exact Au))
  refine ret_eq ?_; simp only [go_sem]
  rw [if_pos h3]
noncomputable def atE (ps : List Pr) (c : List Int) (t : Pd) (w : Int) : Int :=
 if c.length ≠ ps.length then 1 else if checkF ps t ≠ 0 then checkF ps t else if givenF ps [c] [] ≠ 0 then givenF ps [c] [] else if resF t.kind ≠ w then 14 else if allB ntmB t = false then 15 else 0
open Classical in
noncomputable def atV (ps : List Pr) (c : List Int) (t : Pd) : AV := if c.length ≠ ps.length ∨ checkF ps t ≠ 0 ∨ givenF ps [c] [] ≠ 0 then aView [] [] [] else aView ps c (valuesAt ps c)
def nchB : Pd → Bool | .mk k _ _ _ _ _ => decide (k ≠ 4)
def andB (f g : Pd → Bool) (x : Pd) : Bool := f x && g x
theorem allB_and {f g : Pd → Bool} (t : Pd) : allB f t = true → allB g t = true → allB (andB f g) t = true := by
 induction t using Pd.ind with
 | _ k n p q s l ih =>
  intro hf hg
  obtain ⟨f1, f2⟩ := allB_sub hf
  obtain ⟨g1, g2⟩ := allB_sub hg
  rw [allB_mk, Bool.and_eq_true, List.all_eq_true]
  exact ⟨by unfold andB; rw [f1, g1]; rfl, fun x hx => ih x hx (f2 x hx) (g2 x hx)⟩
noncomputable def aBool (ps : List Pr) (c : List Int) (t : Pd) : AV := .tup [ab (decide (atE ps c t 2 = 0) && truF (cutO ps c fun _ _ => 0) t), ai (atE ps c t 2)]
end Go.AL
end
section
namespace Go.AL
open Go Go.RowKit
set_option maxRecDepth 4000
def fillZ (l : List Int) (n i : Nat) : List Int := l.take i ++ List.replicate (n - i) 0
def two (_l a b : List Int) (g : Int → Int → Int) : List Int := List.zipWith g a b
noncomputable def aComb (ps : List Pr) (a b : List Int) (g : Int → Int → Int) : AV := if givenF ps [a, b] [] ≠ 0 then .tup [.sl 1 [], ai (givenF ps [a, b] [])] else .tup [aInts (List.zipWith g a b), ai 0]
theorem givenL {ps : List Pr} {l : List (List Int)} : givenF ps l [] = 0 ↔ (validF ps = true ∧ ∀ c ∈ l, c.length = ps.length) ∧ (∀ c ∈ l, inRangeF ps c = true) ∧ ∀ c ∈ l, closedF ps c = true := by
 have h1 : sizedF ps l = true ↔ validF ps = true ∧ ∀ c ∈ l, c.length = ps.length := by
  refine ⟨sizedF_inv, fun h => ?_⟩
  unfold sizedF
  rw [h.1, Bool.true_and, Bool.not_eq_true', List.any_eq_false]
  intro c hc
  rw [decide_eq_true (h.2 c hc)]; decide
 have h2 := List.all_eq_true (l := l) (p := inRangeF ps)
 have h3 := List.all_eq_true (l := l) (p := closedF ps)
 rw [← h1, ← h2, ← h3]
 unfold givenF
 cases sizedF ps l <;> cases l.all (inRangeF ps) <;> cases l.all (closedF ps) <;> simp
end Go.AL
end
section
namespace Go.AL
open Go Go.RowKit
set_option maxRecDepth 4000
def covB (m : Int) : Pd → Bool
 | .mk k _ p _ _ _ => !(decide (k = 3) && (decide (p < 0) || decide (m ≤ p)))
theorem prune_covered (m : Int) (t : Pd) : szF t ≤ 1000000 → PC Proofs.Tryz.prog 102 [aPd t, ai m] (ab (allB (covB m) t)) := by
 induction t using Pd.ind with
 | _ k n p q s l ih =>
 intro hz
 have hsz : szF (.mk k n p q s l) = szL l + 1 := by rw [szF]
 have hll := szL_len l
 have h1 : ∀ x ∈ l, PV Proofs.Tryz.prog (.clo 162 [.rp 1 [ai m] 0 0]) [aPd x] (ab (!allB (covB m) x)) := by
  intro x hx
  have hxi := szL_mem hx
  have hch := ih x hx (by omega)
  generalize allB (covB m) x = b at *
  obtain ⟨k2, n2, p2, q2, s2, l2⟩ := x
  refine PC.clo ?_
  simp only [aPd_mk] at *
  refine PC.enter 8 [.tmp 3] [2] Proofs.Tryz.func162 rfl rfl rfl rfl rfl (by simp) (AWp.of ?_); simp only [go_sem]
  repeat (first | ((with_reducible refine AWp.ofC ?_ ?_); exact rfl; simp only [go_sem]) | ((with_reducible refine an ?_ ?_); exact Au))
  repeat ((with_reducible refine an ?_ ?_); exact As)
  refine (hch).val.use ?_; simp only [go_sem]
  repeat (first | ((with_reducible refine AWp.ofC ?_ ?_); exact rfl; simp only [go_sem]) | ((with_reducible refine an ?_ ?_); exact Au))
  refine ret_eq ?_; simp only [go_sem]
 have hc := preds_containsFunc l (by omega) _ rfl (fun x => !allB (covB m) x) h1
 have hsp : allB (covB m) (.mk k n p q s l) = (covB m (.mk k n p q s l) && !l.any fun x => !allB (covB m) x) := by
  rw [allB_mk]; congr 1
  rw [List.all_eq_not_any_not]
 have hc1 : covB m (.mk k n p q s l) = !(decide (k = 3) && (decide (p < 0) || decide (m ≤ p))) := rfl
 generalize allB (covB m) (.mk k n p q s l) = B at *
 generalize covB m (.mk k n p q s l) = b at *
 generalize (l.any fun x => !allB (covB m) x) = c at *
 refine PC.enter 24 [.tmp 4] [2, 3] Proofs.Tryz.func102 rfl rfl rfl rfl rfl (by simp) (AWp.of ?_); simp only [go_sem]
 repeat (first | ((with_reducible refine AWp.ofC ?_ ?_); exact rfl; simp only [go_sem]) | ((with_reducible refine an ?_ ?_); exact Au))
 repeat (first | ((with_reducible refine AWp.ofC ?_ ?_); exact rfl; simp only [go_sem]) | ((with_reducible refine an ?_ ?_); exact Au))
 refine ⟨fun h1 h2 => ?_, fun h1 => ?_⟩
 ·repeat (first | ((with_reducible refine AWp.ofC ?_ ?_); exact rfl; simp only [go_sem]) | ((with_reducible refine an ?_ ?_); exact Au))
  refine ret_eq ?_; simp only [go_sem]
  rw [hsp, hc1]; simp [h1]; intro a1 a2; omega
 have hb : b = true := by
  rw [hc1]
  by_cases e : k = 3
  ·have := h1 e; simp only [e, decide_true, Bool.true_and]; simp; omega
  ·simp [e]
 rw [hb, Bool.true_and] at hsp
 repeat (first | ((with_reducible refine AWp.ofC ?_ ?_); exact rfl; simp only [go_sem]) | ((with_reducible refine an ?_ ?_); exact Au))
 repeat ((with_reducible refine an ?_ ?_); exact As)
 refine (hc).val.use ?_; simp only [go_sem]
 repeat (first | ((with_reducible refine AWp.ofC ?_ ?_); exact rfl; simp only [go_sem]) | ((with_reducible refine an ?_ ?_); exact Au))
 refine ret_eq ?_; simp only [go_sem]
 rw [hsp]
mutual
def rwF (c : List Int) : Pd → Pd
 | .mk k n p q s l => if k = 3 then .mk 6 0 0 0 ByteArray.empty [.mk k n p q s l, .mk 1 (c.getD p.toNat 0) 0 0 ByteArray.empty []] else .mk k n p q s (rwL c l)
def rwL (c : List Int) : List Pd → List Pd
 | [] => []
 | x :: r => rwF c x :: rwL c r
end
theorem rwL_map (c : List Int) : ∀ l, rwL c l = l.map (rwF c)
 | [] => by rw [rwL]; rfl
 | x :: r => by rw [rwL, rwL_map c r]; rfl
def aPd0 : AV := .agg [ai 0, ai 0, ai 0, ai 0, astr ByteArray.empty, anil]
theorem prune_rewrite (c : List Int) (_hc : c.length ≤ 1000000) (t : Pd) : szF t ≤ 1000000 → allB (covB c.length) t = true → PC Proofs.Tryz.prog 103 [aPd t, aInts c] (aPd (rwF c t)) := by
 induction t using Pd.ind with
 | _ k n p q s l ih =>
 intro hz hcv
 have hsz : szF (.mk k n p q s l) = szL l + 1 := by rw [szF]
 have hll := szL_len l
 rw [allB_mk, Bool.and_eq_true] at hcv
 obtain ⟨hcv, hcl⟩ := hcv
 have hsp : rwF c (.mk k n p q s l) = if k = 3 then .mk 6 0 0 0 ByteArray.empty [.mk k n p q s l, .mk 1 (c.getD p.toNat 0) 0 0 ByteArray.empty []] else .mk k n p q s (l.map (rwF c)) := by rw [rwF, rwL_map]
 generalize rwF c (.mk k n p q s l) = T at *
 refine PC.enter 39 [.cell 4 27] [2, 7, 34] Proofs.Tryz.func103 rfl rfl rfl rfl rfl (by simp) (AWp.of ?_); simp only [go_sem]
 intro b4
 repeat (first | ((with_reducible refine AWp.ofC ?_ ?_); exact rfl; simp only [go_sem]) | ((with_reducible refine an ?_ ?_); exact Au))
 refine ⟨fun h1 => ?_, fun h1 => ?_⟩
 ·rw [if_pos h1] at hsp
  have hp : 0 ≤ p ∧ p < c.length := by
   simp only [covB, h1, decide_true, Bool.true_and, Bool.not_eq_true', Bool.or_eq_false_iff, decide_eq_false_iff_not] at hcv
   omega
  have hpn : p.toNat < c.length := by omega
  have hgp : (c.map ai).getD p.toNat .any = ai c[p.toNat] := getD_map hpn
  have hcd : c.getD p.toNat 0 = c[p.toNat] := by rw [List.getD_eq_getElem?_getD, List.getElem?_eq_getElem hpn]; rfl
  rw [hcd] at hsp
  refine AWp.mix mixed [0, 1, 2, 3, 4, 5, 6] (.step 7 (.step 8 (.step 9 .done .done) .done) .done) (by kernel_rfl) ?_; simp only [go_sem, hgp]
  repeat ((with_reducible refine an ?_ ?_); exact As)
  intro b hlt
  have nb : ¬ b4 = b := by omega
  simp only [go_sem, nb]
  repeat ((with_reducible refine an ?_ ?_); exact As)
  repeat (first | ((with_reducible refine AWp.ofC ?_ ?_); exact rfl; simp only [go_sem]) | ((with_reducible refine an ?_ ?_); exact Au))
  refine ret_view [true] ?_; simp only [go_sem, nb]
  rw [hsp]
  simp only [aPd_mk, List.map_cons, List.map_nil]
  refine .mkAgg (Vws.cons (.refl _) (Vws.cons (.refl _) (Vws.cons (.refl _) (Vws.cons (.refl _) (Vws.cons (.refl _) (Vws.cons (.ls (if_pos rfl) (by simp) (by simp) ?_) .nil))))))
  exact (Vws.cons (.refl _) (Vws.cons (.mkAgg (Vws.cons (.refl _) (Vws.cons (.refl _) (Vws.cons (.refl _) (Vws.cons (.refl _) (Vws.cons (.refl _) (Vws.cons (.nil 6) .nil))))))) .nil)).2
 ·rw [if_neg h1] at hsp
  repeat (first | ((with_reducible refine AWp.ofC ?_ ?_); exact rfl; simp only [go_sem]) | ((with_reducible refine an ?_ ?_); exact Au))
  intro b5 hlt
  have n1 : ¬ b4 = b5 := by omega
  have n2 : ¬ b5 = b4 := by omega
  repeat (first | ((with_reducible refine AWp.ofC ?_ ?_); exact rfl; simp only [go_sem, n2]) | ((with_reducible refine an ?_ ?_); exact Au))
  refine AWp.range' l.length [] [1, 4, 5, 23, 24] (fun i vs L => ∃ v Ln, L = Ln ++ [(b5, ABlk.row 27 6 [.agg [ai k, ai n, ai p, ai q, astr s, v]] 1), (b4, ABlk.row 27 6 [aPd0] 1)] ∧ AppSt 27 6 (((l.take i).map (rwF c)).map aPd) v Ln ∧ ∀ x ∈ Ln, x.1 ≠ b5 ∧ x.1 ≠ b4) (by omega) rfl rfl rfl ⟨anil, [], rfl, .nil, by simp⟩ ?_ ?_
  ·rintro i vs L hil - ⟨v, Ln, rfl, hA, hne⟩
   simp only [go_sem]
   have hgi := getD_map (f := aPd) hil
   have hzi := szL_mem (List.getElem_mem hil)
   have hch := ih l[i] (List.getElem_mem hil) (by omega) (List.all_eq_true.1 hcl _ (List.getElem_mem hil))
   have hsu : ((l.take (i + 1)).map (rwF c)).map aPd = ((l.take i).map (rwF c)).map aPd ++ [aPd (rwF c l[i])] := by
    rw [List.take_succ_eq_append_getElem hil, List.map_append, List.map_append]; rfl
   have hyl : (((l.take i).map (rwF c)).map aPd).length ≤ 1000000 := by simp; omega
   generalize ((l.take i).map (rwF c)).map aPd = ys at *
   generalize rwF c l[i] = z at *
   generalize l[i] = x at *
   obtain ⟨k2, m2, p2, q2, s2, l2⟩ := x
   obtain ⟨k3, o3, p3, q3, s3, l3⟩ := z
   simp only [aPd_mk] at hgi hch hsu
   rcases hA.inv with ⟨e1, rfl, rfl⟩ | ⟨b, cap, rfl, rfl⟩
   ·repeat (first | ((with_reducible refine AWp.ofC ?_ ?_); exact rfl; simp only [go_sem, hgi]) | ((with_reducible refine an ?_ ?_); exact Au))
    intro b7 g1 g2
    have n7 : ¬ b5 = b7 := by omega
    have n8 : ¬ b7 = b5 := by omega
    repeat ((with_reducible refine an ?_ ?_); exact As)
    refine AWp.mix mixed [0, 2, 3, 4] (.step 1 (.step 5 (.step 6 (.step 7 (.step 8 .done .done) .done) .done) .done) (.step 5 (.step 1 (.step 6 (.step 7 (.step 8 .done .done) .done) .done) .done) .done)) (by kernel_rfl) ?_; simp only [go_sem]
    repeat ((with_reducible refine an ?_ ?_); exact As)
    refine GCall.use (.agg [ai k3, ai o3, ai p3, ai q3, astr s3, .sl 6 (l3.map aPd)]) (fun _ => ⟨At, (hch).val.use ⟨rfl, rfl⟩⟩) ?_; simp only [go_sem, n2]
    repeat' (first | (with_reducible refine And.intro ?_ ?_) | intro _)
    all_goals first | omega | skip
    all_goals
     rename_i b' cap' f1 f2 f3
     have n5 : ¬ b5 = b' := by omega
     have n6 : ¬ b4 = b' := by omega
     simp only [go_sem, n5]
     repeat ((with_reducible refine an ?_ ?_); exact As)
     repeat (first | ((with_reducible refine AWp.ofC ?_ ?_); exact rfl; simp only [go_sem, n5, n6]) | ((with_reducible refine an ?_ ?_); exact Au))
     refine ⟨_, List.Sublist.refl _, _, [(b', .row 27 6 [_] cap')], rfl, ?_, ?_⟩
     ·rw [hsu, e1]; exact .row _ [_] _
     ·intro p hp; simp at hp; subst hp; exact ⟨fun e => n5 e.symm, fun e => n6 e.symm⟩
   ·have m1 : ¬ b = b5 := (hne (b, _) List.mem_cons_self).1
    have m2 : ¬ b = b4 := (hne (b, _) List.mem_cons_self).2
    have m3 : ¬ b5 = b := fun e => m1 e.symm
    have m4 : ¬ b4 = b := fun e => m2 e.symm
    repeat (first | ((with_reducible refine AWp.ofC ?_ ?_); exact rfl; simp only [go_sem, hgi]) | ((with_reducible refine an ?_ ?_); exact Au))
    intro b7 g0 g1 g2
    have n7 : ¬ b5 = b7 := by omega
    have n8 : ¬ b7 = b5 := by omega
    have n9 : ¬ b = b7 := by omega
    have n10 : ¬ b7 = b := by omega
    repeat ((with_reducible refine an ?_ ?_); exact As)
    refine AWp.mix mixed [0, 2, 3, 4] (.step 1 (.step 5 (.step 6 (.step 7 (.step 8 .done .done) .done) .done) .done) (.step 5 (.step 1 (.step 6 (.step 7 (.step 8 .done .done) .done) .done) .done) .done)) (by kernel_rfl) ?_; simp only [go_sem]
    repeat ((with_reducible refine an ?_ ?_); exact As)
    refine GCall.use (.agg [ai k3, ai o3, ai p3, ai q3, astr s3, .sl 6 (l3.map aPd)]) (fun _ => ⟨At, (hch).val.use ⟨rfl, rfl⟩⟩) ?_; simp only [go_sem, n2, m1, m3]
    repeat' (first | (with_reducible refine And.intro ?_ ?_) | intro _)
    all_goals first | omega | skip
    all_goals
     rename_i b' cap' n5 n6 f3
     simp only [go_sem, n5]
     repeat ((with_reducible refine an ?_ ?_); exact As)
     repeat (first | ((with_reducible refine AWp.ofC ?_ ?_); exact rfl; simp only [go_sem, n5, n6]) | ((with_reducible refine an ?_ ?_); exact Au))
     refine ⟨_, List.Sublist.refl _, _, [(b', .row 27 6 (ys ++ [_]) cap')], rfl, ?_, ?_⟩
     ·rw [hsu]
      have := AppSt.row (t := 27) (k := 6) b' (ys ++ [.agg [ai k3, ai o3, ai p3, ai q3, astr s3, .sl 6 (l3.map aPd)]]) cap'
      simpa using this
     ·intro p hp; simp at hp; subst hp; exact ⟨fun e => n5 e.symm, fun e => n6 e.symm⟩
  ·rintro vs L - ⟨v, Ln, rfl, hA, hne⟩
   simp only [go_sem]
   rw [List.take_length] at hA
   have hee : aPd T = .agg [ai k, ai n, ai p, ai q, astr s, .sl 6 ((l.map (rwF c)).map aPd)] := by rw [hsp, aPd_mk]
   generalize (l.map (rwF c)).map aPd = ys at *
   rw [hee]
   rcases hA.inv with ⟨e1, rfl, rfl⟩ | ⟨b, cap, rfl, rfl⟩
   ·repeat (first | ((with_reducible refine AWp.ofC ?_ ?_); exact rfl; simp only [go_sem, n1, n2, aPd0]) | ((with_reducible refine an ?_ ?_); exact Au))
    refine ret_view [] ?_; simp only [go_sem, n1]
    rw [e1]
    exact .mkAgg (Vws.cons (.refl _) (Vws.cons (.refl _) (Vws.cons (.refl _) (Vws.cons (.refl _) (Vws.cons (.refl _) (Vws.cons (.nil 6) .nil))))))
   ·have m1 : ¬ b5 = b := fun e => (hne (b, _) List.mem_cons_self).1 e.symm
    have m2 : ¬ b4 = b := fun e => (hne (b, _) List.mem_cons_self).2 e.symm
    repeat (first | ((with_reducible refine AWp.ofC ?_ ?_); exact rfl; simp only [go_sem, n1, n2, m1, m2, aPd0]) | ((with_reducible refine an ?_ ?_); exact Au))
    refine ret_view [true] ?_; simp only [go_sem, n1, m2]
    exact .mkAgg (Vws.cons (.refl _) (Vws.cons (.refl _) (Vws.cons (.refl _) (Vws.cons (.refl _) (Vws.cons (.refl _) (Vws.cons (Vw.ofLs (if_pos rfl) rfl) .nil))))))
end Go.AL
end
