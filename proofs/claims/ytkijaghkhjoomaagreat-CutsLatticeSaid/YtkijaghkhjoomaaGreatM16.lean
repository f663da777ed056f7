/- Texts of this claim's proof: WCp, WCk, WNa, WNb, WNc, WNd2. No condition. -/
import Derived.Test.YtkijaghkhjoomaaGreatM8
import Derived.Test.YtkijaghkhjoomaaGreatM15
import Derived.Test.YtkijaghkhjoomaaGreatM10
import Derived.Test.YtkijaghkhjoomaaGreatM6
import Derived.Test.YtkijaghkhjoomaaGreatM11
import Derived.Test.YtkijaghkhjoomaaGreatM12
import Derived.Test.YtkijaghkhjoomaaGreatM13
import Derived.Test.YtkijaghkhjoomaaGreatM14
section
/- What certificates say. Plain laws. No condition. -/
namespace Go.AL
open Go Go.RowKit
set_option maxRecDepth 4000
abbrev Spn := Int × Int × Int
def spOk (E : Elim) (now : Nat → Nat) (s : Spn) : Bool := !lostB E now && (decide (0 ≤ s.1) && decide (s.1 < E.n) && decide (s.2.1 = now s.1.toNat) && decide (s.2.1 ≤ s.2.2) && decide (s.2.2 ≤ E.top s.1.toNat))
def spEx (E : Elim) (now : Nat → Nat) (s : Spn) : Bool := (List.range (s.2.2.toNat + 1 - s.2.1.toNat)).all fun j => exB E now s.1.toNat (s.2.1.toNat + j)
def endsG (E : Elim) : List Spn → (Nat → Nat) → Bool
  | [], now => lostB E now
  | s :: r, now => if spOk E now s = true ∧ spEx E now s = true then endsG E r (updN now s.1.toNat (s.2.2.toNat + 1)) else false
/-- A list of counts is a consistent cut at which the locals are true. -/
def satG (ps : List Pr) (E : Elim) (c : List Int) : Bool := isF ps c && (List.range c.length).all fun p => E.ok p (cAt c p).toNat
noncomputable def checkG (ps : List Pr) (ts : List Pd) (a : Ans) : Bool :=
  if conF ps ts = 0 ∧ a.mode = 1 ∧ a.cuts = [] ∧ a.run = [] ∧ a.value = 0 then
    if a.holds = true then decide (a.kind = 1) && decide (a.spans = []) && satG ps (elimOf ps ts) a.cut
    else decide (a.kind = 4) && decide (a.cut = []) && endsG (elimOf ps ts) a.spans fun _ => 0
  else false
section
variable {ps : List Pr} {ts : List Pd}
end
end Go.AL
end
section
/- The package conjunctive: Check. No condition. -/
namespace Go.AL
open Go Go.RowKit
set_option maxRecDepth 4000
theorem cut_Consistent (ps : List Pr) (hs : Sm ps) (c : List Int) : PC Go.Proofs.Tryz.prog 99 [aTr ps, aInts c] (ab (decide (givenF ps [c] [] = 0))) := by
  have hg := cut_given ps hs [c] (by simp) [] (by simp)
  generalize givenF ps [c] [] = G at *
  refine PC.enter 10 [.tmp 4] [2, 7] Go.Proofs.Tryz.func99 rfl rfl rfl rfl rfl (by simp) (AWp.of ?_); simp only [go_sem]
  repeat (first | ((with_reducible refine AWp.ofC ?_ ?_); (focus exact rfl); simp only [go_sem]) | ((with_reducible refine an ?_ ?_); focus exact Au))
  refine (PC.view (Vws.cons (.refl _) (Vws.cons (.refl _) (Vws.cons (.nil 1) .nil))) hg (Own.v _) ?_).val
  simp only [go_sem]
  repeat (first | ((with_reducible refine AWp.ofC ?_ ?_); (focus exact rfl); simp only [go_sem]) | ((with_reducible refine an ?_ ?_); focus exact Au))
  refine ret_eq ?_; simp only [go_sem]
theorem given_isF {ps : List Pr} (hv : validF ps = true) (c : List Int) : decide (givenF ps [c] [] = 0) = isF ps c := by
  rw [Bool.eq_iff_iff, decide_eq_true_eq, givenL, isF_iff]
  simp [hv]
end Go.AL
end
section
/- The package cuts: the list as one's own, what is deleted of it, lists that are no cuts, Find, Between. No condition. -/
namespace Go.AL
open Go Go.RowKit
set_option maxRecDepth 4000
def OwnS (xs : List (List Int)) (v : AV) (L : AHeap) : Prop :=
  (xs = [] ∧ v = anil ∧ L = []) ∨ ∃ b cap ws, v = .ls b 1 0 xs.length cap ∧ L = [(b, .row 43 1 (xs.map aInts ++ ws) cap)]
theorem OwnS.fo {xs : List (List Int)} {v : AV} {L : AHeap} (h : OwnS xs v L) : AL.fo v = (True, v) := by
  rcases h with ⟨_, rfl, _⟩ | ⟨b, cap, ws, rfl, _⟩ <;> rfl
theorem cuts_listO (ps : List Pr) (hs : Sm ps) : MCalls Go.Proofs.Tryz.prog 54 [aTr ps] [] fun r L => ∃ v, r = .tup [v, ai (lstE ps)] ∧ OwnS (lstF ps) v L := by
  have h1 := cuts_levels' ps hs
  have hf : (lvOf ps).flatten.length ≤ 1000000 := by rw [lv_flat]; have := lst_len ps; omega
  have h2 := rows_concat (lvOf ps) (by have := lv_len hs; omega) hf
  have hfl := lv_flat ps
  rw [← hfl]
  generalize lvOf ps = ls at *
  generalize lstE ps = e at *
  refine MCalls.enter' 14 [.tmp 2, .tmp 3] [1] Go.Proofs.Tryz.func54 rfl rfl rfl rfl rfl (by simp) (AWp.of ?_); simp only [go_sem]
  repeat (first | ((with_reducible refine AWp.ofC ?_ ?_); (focus exact rfl); simp only [go_sem]) | ((with_reducible refine an ?_ ?_); focus exact Au))
  repeat ((with_reducible refine an ?_ ?_); focus exact As)
  refine (h1).val.use ?_; simp only [go_sem]
  repeat (first | ((with_reducible refine AWp.ofC ?_ ?_); (focus exact rfl); simp only [go_sem]) | ((with_reducible refine an ?_ ?_); focus exact Au))
  refine h2.val.mono ?_
  intro r L hC
  have hO : OwnS ls.flatten r L := by
    unfold CatS at hC
    rw [List.take_length] at hC
    rcases hC with h | ⟨b, cap, xs, e1, e2, h3, h4⟩
    · exact .inl h
    · exact .inr ⟨b, cap, xs.drop ls.flatten.length, e1, by rw [e2, ← h4, List.take_append_drop]⟩
  have hfo := hO.fo
  clear hC
  simp only [go_sem, hfo]
  repeat (first | ((with_reducible refine AWp.ofC ?_ ?_); (focus exact rfl); simp only [go_sem]) | ((with_reducible refine an ?_ ?_); focus exact Au))
  refine ret_own ?_
  simp only [go_sem]
  exact ⟨r, rfl, hO⟩
/-! Deleting. -/
theorem getD_app {l r : List AV} {i : Nat} (h : i < l.length) : (l ++ r).getD i .any = l.getD i .any := by
  rw [List.getD_eq_getElem?_getD, List.getElem?_append_left h, List.getD_eq_getElem?_getD]
theorem rows_delete_nil (g : AV) (hgf : AL.fo g = (True, g)) : PC Go.Proofs.Tryz.prog 69 [anil, g] anil := by
  have h : PC Go.Proofs.Tryz.prog 67 [aRows [], g] (ai (-1)) := rows_indexFunc [] (by decide) g hgf (fun _ => false) (fun x hx => by cases hx)
  refine PC.enter 42 [.tmp 4] [] Go.Proofs.Tryz.func69 rfl rfl rfl rfl rfl (by simp) (AWp.of ?_); simp only [go_sem]
  repeat (first | ((with_reducible refine AWp.ofC ?_ ?_); (focus exact rfl); simp only [go_sem, hgf]) | ((with_reducible refine an ?_ ?_); focus exact Au))
  refine (PC.view (Vws.cons (.nil 1) (Vws.cons (.refl _) .nil)) h (Own.v _) ?_).val
  simp only [go_sem]
  repeat (first | ((with_reducible refine AWp.ofC ?_ ?_); (focus exact rfl); simp only [go_sem, Int.reduceNeg]) | ((with_reducible refine an ?_ ?_); focus exact Au))
  refine ret_eq ?_; simp only [go_sem]
theorem rows_delete (b cap : Nat) (xs : List (List Int)) (ws : List AV) (hl : xs.length ≤ 1000000) (g : AV) (hgf : AL.fo g = (True, g)) (p : List Int → Bool) (hg : ∀ x ∈ xs, PV Go.Proofs.Tryz.prog g [aInts x] (ab (p x))) :
    MCalls Go.Proofs.Tryz.prog 69 [.ls b 1 0 xs.length cap, g] [(b, .row 43 1 (xs.map aInts ++ ws) cap)] fun r L' => OwnS (xs.filter fun x => !p x) r L' := by
  have hIx := rows_indexFunc xs hl g hgf p hg
  refine MCalls.enter' 42 [.tmp 4] [] Go.Proofs.Tryz.func69 rfl rfl rfl rfl rfl (by simp) (AWp.of ?_); simp only [go_sem]
  refine AWp.capOk (b := b) (if_pos rfl) fun hcap => ?_
  rw [List.length_append, List.length_map] at hcap
  repeat (first | ((with_reducible refine AWp.ofC ?_ ?_); (focus exact rfl); simp only [go_sem, hgf]) | ((with_reducible refine an ?_ ?_); focus exact Au))
  have hvw : Vw [(b, .row 43 1 (xs.map aInts ++ ws) cap)] (.ls b 1 0 xs.length cap) (aRows xs) := Vw.front (xs := xs.map aInts) (ws := ws) (if_pos rfl) (by rw [List.length_map])
  refine (PC.view (Vws.cons hvw (Vws.cons (.refl _) .nil)) hIx (Own.v _) ?_).val
  cases h : xs.findIdx? p with
  | none =>
    simp only [go_sem]
    repeat (first | ((with_reducible refine AWp.ofC ?_ ?_); (focus exact rfl); simp only [go_sem, Int.reduceNeg]) | ((with_reducible refine an ?_ ?_); focus exact Au))
    refine ret_own ?_
    simp only [go_sem]
    have e : (xs.filter fun x => !p x) = xs := List.filter_eq_self.2 fun x hx => by rw [List.findIdx?_eq_none_iff] at h; rw [h x hx]; rfl
    rw [e]
    exact .inr ⟨b, cap, ws, rfl, rfl⟩
  | some i0 =>
    rw [List.findIdx?_eq_some_iff_getElem] at h
    obtain ⟨hi0, hp0, hbe⟩ := h
    have hF0 : xs.take i0 = (xs.take (i0 + 1)).filter fun x => !p x := by
      rw [List.take_succ_eq_append_getElem hi0, List.filter_append, List.filter_eq_self.2]
      · simp [hp0]
      · intro x hx
        obtain ⟨j, hj, rfl⟩ := List.getElem_of_mem hx
        rw [List.getElem_take]
        rw [List.length_take] at hj
        have := hbe j (by omega)
        simpa using this
    have hn1 : ¬ ((i0 : Int) = -1) := by omega
    simp only [go_sem]
    repeat (first | ((with_reducible refine AWp.ofC ?_ ?_); (focus exact rfl); simp only [go_sem, hn1]) | ((with_reducible refine an ?_ ?_); focus exact Au))
    refine AWp.block (AWp.loopN [5, 6] [0, 1] (fun m vs L => ∃ (j : Nat) (F zs : List (List Int)), vs = [ai F.length, ai j] ∧ j ≤ xs.length ∧ (F = (xs.take j).filter fun x => !p x) ∧ F.length < j ∧ zs = F ++ xs.drop F.length ∧ m = xs.length - j ∧
      L = [(b, .row 43 1 (zs.map aInts ++ ws) cap)]) (xs.length - (i0 + 1)) ⟨i0 + 1, xs.take i0, xs, by rw [List.length_take, Nat.min_eq_left (by omega)]; rfl, by omega, hF0, by rw [List.length_take]; omega, by rw [List.length_take, Nat.min_eq_left (by omega), List.take_append_drop], rfl, rfl⟩ ?_)
    rintro m vs L - ⟨j, F, zs, rfl, hj, hF, hFj, hz, rfl, rfl⟩
    have zl : zs.length = xs.length := by rw [hz, List.length_append, List.length_drop]; omega
    have hzl : (zs.map aInts ++ ws).length = xs.length + ws.length := by rw [List.length_append, List.length_map, zl]
    simp only [go_sem]
    repeat (first | ((with_reducible refine AWp.ofC ?_ ?_); (focus exact rfl); simp only [go_sem]) | ((with_reducible refine an ?_ ?_); focus exact Au))
    refine ⟨fun h1 => ?_, fun h1 => ?_⟩
    · have hjx : j < xs.length := by omega
      have g1 : (zs.map aInts ++ ws).getD j .any = aInts xs[j] := by
        rw [getD_app (by rw [List.length_map]; omega), getD_map (by omega)]
        subst hz
        rw [List.getElem_append_right (by omega), List.getElem_drop]
        congr 2; omega
      have hgj := hg xs[j] (List.getElem_mem hjx)
      have hst : ((xs.take (j + 1)).filter fun x => !p x) = F ++ if p xs[j] = true then [] else [xs[j]] := by
        rw [List.take_succ_eq_append_getElem hjx, List.filter_append, ← hF]
        cases hpj : p xs[j] <;> simp [hpj]
      repeat (first | ((with_reducible refine AWp.ofC ?_ ?_); (focus exact rfl); simp only [go_sem, g1, hgf, hzl]) | ((with_reducible refine an ?_ ?_); focus exact Au))
      repeat ((with_reducible refine an ?_ ?_); focus exact As)
      refine (hgj).use ?_; simp only [go_sem]
      repeat (first | ((with_reducible refine AWp.ofC ?_ ?_); (focus exact rfl); simp only [go_sem, hzl]) | ((with_reducible refine an ?_ ?_); focus exact Au))
      refine ⟨fun h2 => ?_, fun h2 => ?_⟩
      · rw [if_neg (by rw [h2]; decide)] at hst
        have g0 : (zs.map aInts ++ ws).getD F.length .any = aInts (zs[F.length]'(by omega)) := by rw [getD_app (by rw [List.length_map]; omega), getD_map (by omega)]
        repeat (first | ((with_reducible refine AWp.ofC ?_ ?_); (focus exact rfl); simp only [go_sem, g0]) | ((with_reducible refine an ?_ ?_); focus exact Au))
        refine ⟨_, List.Sublist.refl _, _, ?_, j + 1, F ++ [xs[j]], zs.set F.length xs[j], ?_, by omega, hst.symm, by simp; omega, ?_, rfl, ?_⟩
        · omega
        · rw [List.length_append]; rfl
        · rw [hz, List.set_append_right _ _ (Nat.le_refl _), Nat.sub_self, List.drop_eq_getElem_cons (show F.length < xs.length by omega), List.set_cons_zero, List.append_assoc, List.length_append]; rfl
        · rw [List.map_set, List.set_append_left _ _ (by rw [List.length_map]; omega)]; rfl
      · rw [if_pos h2, List.append_nil] at hst
        repeat (first | ((with_reducible refine AWp.ofC ?_ ?_); (focus exact rfl); simp only [go_sem]) | ((with_reducible refine an ?_ ?_); focus exact Au))
        exact ⟨_, List.Sublist.refl _, _, by omega, j + 1, F, zs, rfl, by omega, hst.symm, by omega, hz, rfl, rfl⟩
    · have hje : j = xs.length := by omega
      rw [hje, List.take_length] at hF
      repeat (first | ((with_reducible refine AWp.ofC ?_ ?_); (focus exact rfl); simp only [go_sem, hzl]) | ((with_reducible refine an ?_ ?_); focus exact Au))
      refine ret_own ?_
      simp only [go_sem]
      have ht : (zs.map aInts ++ ws).take F.length = F.map aInts := by rw [hz, List.map_append, List.append_assoc, List.take_left' (List.length_map _)]
      rw [← hF, ht, List.append_assoc]
      exact .inr ⟨b, cap, _, rfl, rfl⟩
/-! What is no cut. -/
noncomputable def chkE (ps : List Pr) (l : List (List Int)) : Int := if validF ps = true then (if (l.any fun c => !isF ps c) = true then 18 else 0) else 1
theorem cuts_checked1 (ps : List Pr) (hs : Sm ps) (c : List Int) : PC Go.Proofs.Tryz.prog 98 [aInts c, .rp 1 [aTr ps] 0 0] (ab (!decide (givenF ps [c] [] = 0))) := by
  have h := cut_Consistent ps hs c
  generalize givenF ps [c] [] = e at *
  refine PC.enter 8 [.tmp 3] [] Go.Proofs.Tryz.func98 rfl rfl rfl rfl rfl (by simp) (AWp.of ?_); simp only [go_sem]
  repeat (first | ((with_reducible refine AWp.ofC ?_ ?_); (focus exact rfl); simp only [go_sem]) | ((with_reducible refine an ?_ ?_); focus exact Au))
  repeat ((with_reducible refine an ?_ ?_); focus exact As)
  refine (h).val.use ?_; simp only [go_sem]
  repeat (first | ((with_reducible refine AWp.ofC ?_ ?_); (focus exact rfl); simp only [go_sem]) | ((with_reducible refine an ?_ ?_); focus exact Au))
  refine ret_eq ?_; simp only [go_sem]
theorem cuts_checked (ps : List Pr) (hs : Sm ps) (l : List (List Int)) (hl : l.length ≤ 1000000) : PC Go.Proofs.Tryz.prog 66 [aTr ps, aRows l] (ai (chkE ps l)) := by
  have h1 := trace_Valid ps hs
  have h2 := rows_containsFunc l hl (.clo 98 [.rp 1 [aTr ps] 0 0]) rfl (fun c => !decide (givenF ps [c] [] = 0)) fun c _ => (cuts_checked1 ps hs c).clo
  have hR : ∀ x : List (List Int), aRows x = .sl 1 (x.map aInts) := fun _ => rfl
  unfold chkE
  cases hv : validF ps with
  | false =>
    rw [hv] at h1
    refine PC.enter 11 [.tmp 4] [2] Go.Proofs.Tryz.func66 rfl rfl rfl rfl rfl (by simp) (AWp.of ?_); simp only [go_sem]
    repeat (first | ((with_reducible refine AWp.ofC ?_ ?_); (focus exact rfl); simp only [go_sem]) | ((with_reducible refine an ?_ ?_); focus exact Au))
    repeat ((with_reducible refine an ?_ ?_); focus exact As)
    refine (h1).val.use ?_; simp only [go_sem]
    repeat (first | ((with_reducible refine AWp.ofC ?_ ?_); (focus exact rfl); simp only [go_sem]) | ((with_reducible refine an ?_ ?_); focus exact Au))
    refine ret_eq ?_; simp only [go_sem]
  | true =>
    have he : (fun c => !decide (givenF ps [c] [] = 0)) = fun c => !isF ps c := funext fun c => by rw [given_isF hv]
    rw [he] at h2
    rw [hv] at h1
    rw [if_pos rfl]
    generalize (l.any fun c => !isF ps c) = bad at *
    rw [hR] at *
    refine PC.enter 11 [.tmp 4] [2] Go.Proofs.Tryz.func66 rfl rfl rfl rfl rfl (by simp) (AWp.of ?_); simp only [go_sem]
    repeat (first | ((with_reducible refine AWp.ofC ?_ ?_); (focus exact rfl); simp only [go_sem]) | ((with_reducible refine an ?_ ?_); focus exact Au))
    repeat ((with_reducible refine an ?_ ?_); focus exact As)
    refine (h1).val.use ?_; simp only [go_sem]
    repeat (first | ((with_reducible refine AWp.ofC ?_ ?_); (focus exact rfl); simp only [go_sem]) | ((with_reducible refine an ?_ ?_); focus exact Au))
    repeat ((with_reducible refine an ?_ ?_); focus exact As)
    refine (h2).val.use ?_; simp only [go_sem]
    repeat (first | ((with_reducible refine AWp.ofC ?_ ?_); (focus exact rfl); simp only [go_sem]) | ((with_reducible refine an ?_ ?_); focus exact Au))
    refine ⟨fun h => ?_, fun h => ?_⟩
    · repeat (first | ((with_reducible refine AWp.ofC ?_ ?_); (focus exact rfl); simp only [go_sem]) | ((with_reducible refine an ?_ ?_); focus exact Au))
      refine ret_eq ?_; simp only [go_sem]
      rw [h]; rfl
    · repeat (first | ((with_reducible refine AWp.ofC ?_ ?_); (focus exact rfl); simp only [go_sem]) | ((with_reducible refine an ?_ ?_); focus exact Au))
      refine ret_eq ?_; simp only [go_sem]
      rw [h]; rfl
end Go.AL
end
section
/- The package cuts: Find, Between. No condition. -/
namespace Go.AL
open Go Go.RowKit
set_option maxRecDepth 4000
def idxF (l : List (List Int)) (c : List Int) : Int := match l.findIdx? fun d => decide (c = d) with | some i => (i : Int) | none => -1
noncomputable def fndE (ps : List Pr) (l : List (List Int)) : Int := if chkE ps l ≠ 0 then chkE ps l else lstE ps
noncomputable def fndI (ps : List Pr) (c : List Int) : Int := if fndE ps [c] = 0 then idxF (cutsF ps) c else 0
noncomputable def btwF (ps : List Pr) (a b : List Int) : List (List Int) := if fndE ps [a, b] = 0 then (cutsF ps).filter fun c => leqF a c && leqF c b else []
theorem chk_zero {ps : List Pr} {l : List (List Int)} : chkE ps l = 0 ↔ validF ps = true ∧ ∀ c ∈ l, isF ps c = true := by
  unfold chkE
  cases hv : validF ps with
  | false => simp
  | true =>
    simp only [if_true, true_and]
    split
    · rename_i h
      rw [List.any_eq_true] at h
      obtain ⟨c, hc, h⟩ := h
      refine ⟨fun h => absurd h (by decide), fun g => ?_⟩
      rw [g c hc] at h; cases h
    · rename_i h
      refine ⟨fun _ c hc => ?_, fun _ => rfl⟩
      cases hi : isF ps c with
      | true => rfl
      | false => exact absurd (List.any_eq_true.2 ⟨c, hc, by rw [hi]; rfl⟩) h
theorem fnd_zero {ps : List Pr} {l : List (List Int)} : fndE ps l = 0 ↔ (∀ c ∈ l, isF ps c = true) ∧ lstE ps = 0 := by
  unfold fndE
  split
  · rename_i h
    refine ⟨fun h' => absurd h' h, fun ⟨h1, h2⟩ => absurd (chk_zero.2 ⟨(lst_zero.1 h2).1, h1⟩) h⟩
  · rename_i h
    have := chk_zero.1 (Classical.not_not.1 h)
    exact ⟨fun g => ⟨this.2, g⟩, fun g => g.2⟩
theorem cuts_Find1 (c d : List Int) (hc : c.length ≤ 1000000) : PC Go.Proofs.Tryz.prog 68 [aInts d, .rp 1 [aInts c] 0 0] (ab (decide (c = d))) := by
  have h := ints_equal c d hc
  generalize decide (c = d) = e at *
  refine PC.enter 7 [.tmp 3] [] Go.Proofs.Tryz.func68 rfl rfl rfl rfl rfl (by simp) (AWp.of ?_); simp only [go_sem]
  repeat (first | ((with_reducible refine AWp.ofC ?_ ?_); (focus exact rfl); simp only [go_sem]) | ((with_reducible refine an ?_ ?_); focus exact Au))
  repeat ((with_reducible refine an ?_ ?_); focus exact As)
  refine (h).val.use ?_; simp only [go_sem]
  repeat (first | ((with_reducible refine AWp.ofC ?_ ?_); (focus exact rfl); simp only [go_sem]) | ((with_reducible refine an ?_ ?_); focus exact Au))
  refine ret_eq ?_; simp only [go_sem]
theorem cuts_Find (ps : List Pr) (hs : Sm ps) (c : List Int) : PC Go.Proofs.Tryz.prog 24 [aTr ps, aInts c] (.tup [ai (fndI ps c), ai (fndE ps [c])]) := by
  have h1 := cuts_checked ps hs [c] (by simp)
  have h2 := cuts_list ps hs
  have hR : ∀ x : List (List Int), aRows x = .sl 1 (x.map aInts) := fun _ => rfl
  have hc8 : fndE ps [c] = 0 → c.length ≤ 1000000 ∧ lstF ps = cutsF ps := fun h => by
    obtain ⟨g1, g2⟩ := fnd_zero.1 h
    have := (isF_iff.1 (g1 c (by simp))).1
    have h8 := (valid_len (lst_zero.1 g2).1).2
    exact ⟨by omega, by unfold lstF; rw [if_pos g2]⟩
  have h3 := fun h => rows_indexFunc (cutsF ps) (by have := (fnd_zero.1 h).2; have := (lst_zero.1 this).2; omega) (.clo 68 [.rp 1 [aInts c] 0 0]) rfl (fun d => decide (c = d)) fun d _ => (cuts_Find1 c d (hc8 h).1).clo
  have h4 : ∀ n, (match (cutsF ps).findIdx? fun d => decide (c = d) with | some i => (i : Int) | none => -1) = n ↔ idxF (cutsF ps) c = n := fun n => Iff.rfl
  unfold aLst at h2
  unfold fndI
  have hE : fndE ps [c] = if chkE ps [c] ≠ 0 then chkE ps [c] else lstE ps := rfl
  by_cases hk : chkE ps [c] = 0
  · rw [if_neg (by simpa using hk)] at hE
    rw [hk] at h1
    by_cases hl : lstE ps = 0
    · rw [hl] at hE
      have h3 := h3 hE
      rw [hE, if_pos rfl]
      rw [(hc8 hE).2, hl] at h2
      change PC _ _ _ (ai (idxF (cutsF ps) c)) at h3
      generalize idxF (cutsF ps) c = n at *
      generalize cutsF ps = cs at *
      rw [hR] at *
      simp only [List.map_cons, List.map_nil] at h1
      refine PC.enter 27 [.tmp 4, .tmp 5] [2, 3, 11] Go.Proofs.Tryz.func24 rfl rfl rfl rfl rfl (by simp) (AWp.of ?_); simp only [go_sem]
      repeat (first | ((with_reducible refine AWp.ofC ?_ ?_); (focus exact rfl); simp only [go_sem]) | ((with_reducible refine an ?_ ?_); focus exact Au))
      repeat ((with_reducible refine an ?_ ?_); focus exact As)
      refine (h1).val.use ?_; simp only [go_sem]
      repeat (first | ((with_reducible refine AWp.ofC ?_ ?_); (focus exact rfl); simp only [go_sem]) | ((with_reducible refine an ?_ ?_); focus exact Au))
      repeat ((with_reducible refine an ?_ ?_); focus exact As)
      refine (h2).val.use ?_; simp only [go_sem]
      repeat (first | ((with_reducible refine AWp.ofC ?_ ?_); (focus exact rfl); simp only [go_sem]) | ((with_reducible refine an ?_ ?_); focus exact Au))
      repeat ((with_reducible refine an ?_ ?_); focus exact As)
      refine (h3).val.use ?_; simp only [go_sem]
      repeat (first | ((with_reducible refine AWp.ofC ?_ ?_); (focus exact rfl); simp only [go_sem]) | ((with_reducible refine an ?_ ?_); focus exact Au))
      refine ret_eq ?_; simp only [go_sem]
    · rw [hE, if_neg hl]
      generalize lstE ps = e at *
      generalize lstF ps = cs at *
      rw [hR] at *
      simp only [List.map_cons, List.map_nil] at h1
      refine PC.enter 27 [.tmp 4, .tmp 5] [2, 3, 11] Go.Proofs.Tryz.func24 rfl rfl rfl rfl rfl (by simp) (AWp.of ?_); simp only [go_sem]
      repeat (first | ((with_reducible refine AWp.ofC ?_ ?_); (focus exact rfl); simp only [go_sem]) | ((with_reducible refine an ?_ ?_); focus exact Au))
      repeat ((with_reducible refine an ?_ ?_); focus exact As)
      refine (h1).val.use ?_; simp only [go_sem]
      repeat (first | ((with_reducible refine AWp.ofC ?_ ?_); (focus exact rfl); simp only [go_sem]) | ((with_reducible refine an ?_ ?_); focus exact Au))
      repeat ((with_reducible refine an ?_ ?_); focus exact As)
      refine (h2).val.use ?_; simp only [go_sem]
      repeat (first | ((with_reducible refine AWp.ofC ?_ ?_); (focus exact rfl); simp only [go_sem, hl]) | ((with_reducible refine an ?_ ?_); focus exact Au))
      refine ret_eq ?_; simp only [go_sem]
  · rw [if_pos hk] at hE
    rw [hE, if_neg hk]
    generalize chkE ps [c] = e at *
    rw [hR] at *
    simp only [List.map_cons, List.map_nil] at h1
    refine PC.enter 27 [.tmp 4, .tmp 5] [2, 3, 11] Go.Proofs.Tryz.func24 rfl rfl rfl rfl rfl (by simp) (AWp.of ?_); simp only [go_sem]
    repeat (first | ((with_reducible refine AWp.ofC ?_ ?_); (focus exact rfl); simp only [go_sem]) | ((with_reducible refine an ?_ ?_); focus exact Au))
    repeat ((with_reducible refine an ?_ ?_); focus exact As)
    refine (h1).val.use ?_; simp only [go_sem]
    repeat (first | ((with_reducible refine AWp.ofC ?_ ?_); (focus exact rfl); simp only [go_sem, hk]) | ((with_reducible refine an ?_ ?_); focus exact Au))
    refine ret_eq ?_; simp only [go_sem]
theorem cuts_Between1 (a b c : List Int) (ha : a.length ≤ 1000000) (hc : c.length ≤ 1000000) : PC Go.Proofs.Tryz.prog 70 [aInts c, .rp 1 [aInts a] 0 0, .rp 1 [aInts b] 0 0] (ab (!(leqF a c && leqF c b))) := by
  have h := cut_Leq a c ha
  have h2 := cut_Leq c b hc
  generalize leqF a c = e at *
  generalize leqF c b = f at *
  refine PC.enter 15 [.tmp 4] [] Go.Proofs.Tryz.func70 rfl rfl rfl rfl rfl (by simp) (AWp.of ?_); simp only [go_sem]
  repeat (first | ((with_reducible refine AWp.ofC ?_ ?_); (focus exact rfl); simp only [go_sem]) | ((with_reducible refine an ?_ ?_); focus exact Au))
  repeat ((with_reducible refine an ?_ ?_); focus exact As)
  refine (h).val.use ?_; simp only [go_sem]
  repeat (first | ((with_reducible refine AWp.ofC ?_ ?_); (focus exact rfl); simp only [go_sem]) | ((with_reducible refine an ?_ ?_); focus exact Au))
  repeat ((with_reducible refine an ?_ ?_); focus exact As)
  refine GCall.use (ab f) (fun _ => ⟨At, (h2).val.use ⟨rfl, rfl⟩⟩) ?_; simp only [go_sem]
  repeat (first | ((with_reducible refine AWp.ofC ?_ ?_); (focus exact rfl); simp only [go_sem]) | ((with_reducible refine an ?_ ?_); focus exact Au))
  refine ret_eq ?_; simp only [go_sem]
  cases e <;> rfl
theorem cuts_Between (ps : List Pr) (hs : Sm ps) (a b : List Int) : PC Go.Proofs.Tryz.prog 25 [aTr ps, aInts a, aInts b] (.tup [aRows (btwF ps a b), ai (fndE ps [a, b])]) := by
  have h1 := cuts_checked ps hs [a, b] (by simp)
  have h2 := cuts_listO ps hs
  have hR : ∀ x : List (List Int), aRows x = .sl 1 (x.map aInts) := fun _ => rfl
  have hE : fndE ps [a, b] = if chkE ps [a, b] ≠ 0 then chkE ps [a, b] else lstE ps := rfl
  unfold btwF
  by_cases hk : chkE ps [a, b] = 0
  · rw [if_neg (by simpa using hk)] at hE
    rw [hk] at h1
    by_cases hl : lstE ps = 0
    · rw [hl] at hE
      rw [hE, if_pos rfl]
      obtain ⟨g1, g2⟩ := fnd_zero.1 hE
      obtain ⟨hv, h5⟩ := lst_zero.1 g2
      have h8 := (valid_len hv).2
      have hal := (isF_iff.1 (g1 a (by simp))).1
      have hL : lstF ps = cutsF ps := by unfold lstF; rw [if_pos g2]
      rw [hL, hl] at h2
      have hg : ∀ c ∈ cutsF ps, PV Go.Proofs.Tryz.prog (.clo 70 [.rp 1 [aInts a] 0 0, .rp 1 [aInts b] 0 0]) [aInts c] (ab (!(leqF a c && leqF c b))) := fun c hc =>
        (cuts_Between1 a b c (by omega) (by have := (isF_iff.1 ((mem_cutsF hv).1 hc)).1; omega)).clo
      have hfl : ((cutsF ps).filter fun c => !!(leqF a c && leqF c b)) = (cutsF ps).filter fun c => leqF a c && leqF c b := by congr 1; funext c; rw [Bool.not_not]
      have hdel := fun (bb cap : Nat) (ws : List AV) => rows_delete bb cap (cutsF ps) ws (by omega) _ rfl (fun c => !(leqF a c && leqF c b)) hg
      rw [hfl] at hdel
      have hdn := rows_delete_nil (.clo 70 [.rp 1 [aInts a] 0 0, .rp 1 [aInts b] 0 0]) rfl
      have hfn : cutsF ps = [] → ((cutsF ps).filter fun c => leqF a c && leqF c b) = [] := fun h => by rw [h]; rfl
      generalize ((cutsF ps).filter fun c => leqF a c && leqF c b) = fs at *
      generalize cutsF ps = cs at *
      rw [hR] at *
      simp only [List.map_cons, List.map_nil] at h1
      refine PC.enter 30 [.tmp 6, .tmp 7] [3, 4, 5, 14] Go.Proofs.Tryz.func25 rfl rfl rfl rfl rfl (by simp) (AWp.of ?_); simp only [go_sem]
      repeat (first | ((with_reducible refine AWp.ofC ?_ ?_); (focus exact rfl); simp only [go_sem]) | ((with_reducible refine an ?_ ?_); focus exact Au))
      repeat ((with_reducible refine an ?_ ?_); focus exact As)
      refine (h1).val.use ?_; simp only [go_sem]
      repeat (first | ((with_reducible refine AWp.ofC ?_ ?_); (focus exact rfl); simp only [go_sem]) | ((with_reducible refine an ?_ ?_); focus exact Au))
      refine h2.val.mono ?_
      rintro r L ⟨v, rfl, hO⟩
      rcases hO with ⟨e0, rfl, rfl⟩ | ⟨bb, cap, ws, rfl, rfl⟩
      · rw [hfn e0]
        simp only [go_sem]
        repeat (first | ((with_reducible refine AWp.ofC ?_ ?_); (focus exact rfl); simp only [go_sem]) | ((with_reducible refine an ?_ ?_); focus exact Au))
        repeat ((with_reducible refine an ?_ ?_); focus exact As)
        refine (hdn).val.use ?_; simp only [go_sem]
        repeat (first | ((with_reducible refine AWp.ofC ?_ ?_); (focus exact rfl); simp only [go_sem]) | ((with_reducible refine an ?_ ?_); focus exact Au))
        refine ret_view [] ?_; simp only [go_sem]
        exact .mkTup (Vws.cons (.nil 1) (Vws.refl _))
      · simp only [go_sem]
        repeat (first | ((with_reducible refine AWp.ofC ?_ ?_); (focus exact rfl); simp only [go_sem]) | ((with_reducible refine an ?_ ?_); focus exact Au))
        refine (hdel bb cap ws).val.mono ?_
        rintro r L hO
        rcases hO with ⟨e0, rfl, rfl⟩ | ⟨bb, cap, ws, rfl, rfl⟩
        · simp only [go_sem]
          repeat (first | ((with_reducible refine AWp.ofC ?_ ?_); (focus exact rfl); simp only [go_sem]) | ((with_reducible refine an ?_ ?_); focus exact Au))
          refine ret_view [] ?_; simp only [go_sem]
          rw [e0]
          exact .mkTup (Vws.cons (.nil 1) (Vws.refl _))
        · simp only [go_sem]
          repeat (first | ((with_reducible refine AWp.ofC ?_ ?_); (focus exact rfl); simp only [go_sem]) | ((with_reducible refine an ?_ ?_); focus exact Au))
          refine ret_view [true] ?_; simp only [go_sem]
          exact .mkTup (Vws.cons (Vw.front (if_pos rfl) (by rw [List.length_map])) (Vws.refl _))
    · rw [hE, if_neg hl]
      generalize lstE ps = e at *
      generalize lstF ps = cs at *
      rw [hR] at *
      simp only [List.map_cons, List.map_nil] at h1
      refine PC.enter 30 [.tmp 6, .tmp 7] [3, 4, 5, 14] Go.Proofs.Tryz.func25 rfl rfl rfl rfl rfl (by simp) (AWp.of ?_); simp only [go_sem]
      repeat (first | ((with_reducible refine AWp.ofC ?_ ?_); (focus exact rfl); simp only [go_sem]) | ((with_reducible refine an ?_ ?_); focus exact Au))
      repeat ((with_reducible refine an ?_ ?_); focus exact As)
      refine (h1).val.use ?_; simp only [go_sem]
      repeat (first | ((with_reducible refine AWp.ofC ?_ ?_); (focus exact rfl); simp only [go_sem]) | ((with_reducible refine an ?_ ?_); focus exact Au))
      refine h2.val.mono ?_
      rintro r L ⟨v, rfl, hO⟩
      rcases hO with ⟨e0, rfl, rfl⟩ | ⟨bb, cap, ws, rfl, rfl⟩
      · simp only [go_sem]
        repeat (first | ((with_reducible refine AWp.ofC ?_ ?_); (focus exact rfl); simp only [go_sem, hl]) | ((with_reducible refine an ?_ ?_); focus exact Au))
        refine ret_view [] ?_; simp only [go_sem]
        exact .mkTup (Vws.cons (.nil 1) (Vws.refl _))
      · simp only [go_sem]
        repeat (first | ((with_reducible refine AWp.ofC ?_ ?_); (focus exact rfl); simp only [go_sem, hl]) | ((with_reducible refine an ?_ ?_); focus exact Au))
        refine ret_view [false] ?_; simp only [go_sem]
        exact .mkTup (Vws.cons (.nil 1) (Vws.refl _))
  · rw [if_pos hk] at hE
    rw [hE, if_neg hk]
    generalize chkE ps [a, b] = e at *
    rw [hR] at *
    simp only [List.map_cons, List.map_nil] at h1
    refine PC.enter 30 [.tmp 6, .tmp 7] [3, 4, 5, 14] Go.Proofs.Tryz.func25 rfl rfl rfl rfl rfl (by simp) (AWp.of ?_); simp only [go_sem]
    repeat (first | ((with_reducible refine AWp.ofC ?_ ?_); (focus exact rfl); simp only [go_sem]) | ((with_reducible refine an ?_ ?_); focus exact Au))
    repeat ((with_reducible refine an ?_ ?_); focus exact As)
    refine (h1).val.use ?_; simp only [go_sem]
    repeat (first | ((with_reducible refine AWp.ofC ?_ ?_); (focus exact rfl); simp only [go_sem, hk]) | ((with_reducible refine an ?_ ?_); focus exact Au))
    refine ret_view [] ?_; simp only [go_sem]
    exact .mkTup (Vws.cons (.nil 1) (Vws.refl _))
end Go.AL
end
section
/- The lattice of cuts, plainly. No condition. -/
namespace Go.AL
open Go Go.RowKit
set_option maxRecDepth 4000
def meetL (c d : List Int) : List Int := List.zipWith (fun x y => if y < x then y else x) c d
theorem meet_cAt {c d : List Int} (h : c.length = d.length) {p : Nat} (hp : p < c.length) : cAt (meetL c d) p = if cAt d p < cAt c p then cAt d p else cAt c p := zw_cAt h hp
theorem meet_len {c d : List Int} (h : c.length = d.length) : (meetL c d).length = c.length := by unfold meetL; rw [List.length_zipWith]; omega
theorem meet_is {ps : List Pr} (hv : validF ps = true) {c d : List Int} (hc : isF ps c = true) (hd : isF ps d = true) : isF ps (meetL c d) = true := by
  obtain ⟨hcl, hcr, hcc⟩ := isF_iff.1 hc
  obtain ⟨hdl, hdr, hdc⟩ := isF_iff.1 hd
  have hl := meet_len (c := c) (d := d) (by omega)
  refine isF_iff.2 ⟨by omega, (inRange_iff (by omega)).2 fun p hp => ?_, closed_iff.2 fun p hp i hi hk hle => ?_⟩
  · have h1 := (inRange_iff hcl).1 hcr p hp
    have h2 := (inRange_iff hdl).1 hdr p hp
    rw [meet_cAt (by omega) (by omega)]
    split <;> omega
  · obtain ⟨hq, j, hj, h1, _, _⟩ := recv_peer (valid_parts hv).2.2 hp hi hk
    rw [meet_cAt (by omega) (by omega)] at hle
    have g1 := closed_iff.1 hcc p hp i hi hk
    have g2 := closed_iff.1 hdc p hp i hi hk
    rw [h1] at g1 g2 ⊢
    simp only at g1 g2 ⊢
    generalize ps[p].evs[i].peer.toNat = q at *
    rw [meet_cAt (by omega) (by omega)]
    split at hle <;> split <;> omega
theorem leq_iff_at {a b : List Int} : leqF a b = true ↔ a.length = b.length ∧ ∀ p : Nat, p < a.length → cAt a p ≤ cAt b p := leqF_iff
theorem leq_refl (a : List Int) : leqF a a = true := leq_iff_at.2 ⟨rfl, fun _ _ => Int.le_refl _⟩
theorem leq_sum : ∀ {a b : List Int}, leqF a b = true → a.sum ≤ b.sum ∧ (a.sum = b.sum → a = b)
  | [], [], _ => ⟨Int.le_refl _, fun _ => rfl⟩
  | [], _ :: _, h => by have := (leqF_iff.1 h).1; simp at this
  | _ :: _, [], h => by have := (leqF_iff.1 h).1; simp at this
  | x :: a, y :: b, h => by
    obtain ⟨h1, h2⟩ := leqF_iff.1 h
    have h0 : x ≤ y := by simpa using h2 0 (by simp)
    obtain ⟨i1, i2⟩ := leq_sum (a := a) (b := b) (leqF_iff.2 ⟨by simpa using h1, fun i hi => by have := h2 (i + 1) (by simpa using hi); simpa using this⟩)
    rw [List.sum_cons, List.sum_cons]
    refine ⟨by omega, fun h => ?_⟩
    rw [i2 (by omega), show x = y by omega]
theorem ord_bef {a b : List Int} (hl : a.length = b.length) (h : ordL a b) : befF a b = true := by
  unfold befF
  rcases h with h | ⟨h1, h2⟩
  · rw [if_neg (by omega)]; exact decide_eq_true h
  · rw [if_pos h1]; exact (lexF_iff hl).2 h2
section
variable {A : List (List Int)} (hA : A.Pairwise ordL)
include hA
theorem ord_get {i j : Nat} (hi : i < A.length) (hj : j < A.length) (h : i < j) : ordL A[i] A[j] := List.pairwise_iff_getElem.1 hA i j hi hj h
theorem ord_inj {i j : Nat} (hi : i < A.length) (hj : j < A.length) (h : A[i] = A[j]) : i = j := by
  rcases Nat.lt_trichotomy i j with h1 | h1 | h1
  · have := ord_get hA hi hj h1; rw [h] at this; exact (ordL_irr this).elim
  · exact h1
  · have := ord_get hA hj hi h1; rw [h] at this; exact (ordL_irr this).elim
theorem idx_get {i : Nat} (hi : i < A.length) : idxF A A[i] = i := by
  have : A.findIdx? (fun d => decide (A[i] = d)) = some i := by
    rw [List.findIdx?_eq_some_iff_getElem]
    refine ⟨hi, decide_eq_true rfl, fun j hj h => ?_⟩
    have := ord_inj hA hi (by omega) (of_decide_eq_true h)
    omega
  unfold idxF
  rw [this]
theorem idx_leq {i j : Nat} (hi : i < A.length) (hj : j < A.length) (h : leqF A[i] A[j] = true) : i ≤ j := by
  rcases Nat.lt_or_ge j i with h1 | h1
  · exfalso
    obtain ⟨s1, s2⟩ := leq_sum h
    have ho := ord_get hA hj hi h1
    rcases ho with ho | ⟨e, ho⟩
    · omega
    · have := s2 e.symm
      rw [this, cmpL_irr] at ho
      omega
  · exact h1
end
structure LatD (ps : List Pr) (A : List (List Int)) (i j : Nat) (a b u d : List Int) : Prop where
  is : isF ps a = true ∧ isF ps b = true ∧ isF ps u = true ∧ isF ps d = true
  bef : i < j → befF a b = true
  ia : idxF A a = i
  iu : ∃ m : Nat, idxF A u = m ∧ i ≤ m ∧ j ≤ m
  id : ∃ m : Nat, idxF A d = m ∧ m ≤ i ∧ m ≤ j
  btw : ∀ c, c = a ∨ c = b ∨ c = u ∨ c = d → c ∈ A.filter fun x => leqF d x && leqF x u
  sum : 0 ≤ a.sum ∧ a.sum ≤ off ps ps.length
  lev : a ∈ levF ps a.sum.toNat
  zero : a.sum = 0 → i = 0 ∧ (levF ps a.sum.toNat).length = 1
  low : 0 < a.sum → ∃ x ∈ levF ps (a.sum - 1).toNat, x.length = a.length ∧ leqF x a = true
theorem lat_of {ps : List Pr} (hv : validF ps = true) {A : List (List Int)} (hA : A = cutsF ps) {i j : Nat} (hi : i < A.length) (hj : j < A.length) : LatD ps A i j A[i] A[j] (joinL A[i] A[j]) (meetL A[i] A[j]) := by
  have ho : A.Pairwise ordL := by rw [hA]; exact cuts_ord hv
  have hm : ∀ c, c ∈ A ↔ isF ps c = true := fun c => by rw [hA]; exact mem_cutsF hv
  have ha := (hm _).1 (List.getElem_mem hi)
  have hb := (hm _).1 (List.getElem_mem hj)
  have hal := (isF_iff.1 ha).1
  have hbl := (isF_iff.1 hb).1
  have hu : isF ps (joinL A[i] A[j]) = true := (isF_given hv).1 (join_given ((isF_given hv).2 ha) ((isF_given hv).2 hb))
  have hd := meet_is hv ha hb
  have jl := join_len (c := A[i]) (d := A[j]) (by omega)
  have ml := meet_len (c := A[i]) (d := A[j]) (by omega)
  have hau : leqF A[i] (joinL A[i] A[j]) = true := leq_iff_at.2 ⟨by omega, fun p hp => by rw [join_cAt (by omega) (by omega)]; split <;> omega⟩
  have hbu : leqF A[j] (joinL A[i] A[j]) = true := leq_iff_at.2 ⟨by omega, fun p hp => by rw [join_cAt (by omega) (by omega)]; split <;> omega⟩
  have hda : leqF (meetL A[i] A[j]) A[i] = true := leq_iff_at.2 ⟨by omega, fun p hp => by rw [meet_cAt (by omega) (by omega)]; split <;> omega⟩
  have hdb : leqF (meetL A[i] A[j]) A[j] = true := leq_iff_at.2 ⟨by omega, fun p hp => by rw [meet_cAt (by omega) (by omega)]; split <;> omega⟩
  have hdu : leqF (meetL A[i] A[j]) (joinL A[i] A[j]) = true := leq_iff_at.2 ⟨by omega, fun p hp => by rw [meet_cAt (by omega) (by omega), join_cAt (by omega) (by omega)]; split <;> split <;> omega⟩
  have hsn := sum_nonneg A[i] (isF_nonneg ha)
  have hso := sum_le_off ha
  generalize hu' : joinL A[i] A[j] = u at *
  generalize hd' : meetL A[i] A[j] = d at *
  obtain ⟨mu, hmu, eu⟩ := List.getElem_of_mem ((hm u).2 hu)
  obtain ⟨md, hmd, ed⟩ := List.getElem_of_mem ((hm d).2 hd)
  refine ⟨⟨ha, hb, hu, hd⟩, fun h => ord_bef (by omega) (ord_get ho hi hj h), idx_get ho hi, ⟨mu, by rw [← eu]; exact idx_get ho hmu, idx_leq ho hi hmu (by rw [eu]; exact hau), idx_leq ho hj hmu (by rw [eu]; exact hbu)⟩,
    ⟨md, by rw [← ed]; exact idx_get ho hmd, idx_leq ho hmd hi (by rw [ed]; exact hda), idx_leq ho hmd hj (by rw [ed]; exact hdb)⟩, ?_, ⟨hsn, hso⟩, (mem_levF hv _ _).2 ⟨ha, by omega⟩, fun h0 => ?_, fun h0 => ?_⟩
  · rintro c (rfl | rfl | rfl | rfl)
    · exact List.mem_filter.2 ⟨List.getElem_mem hi, by rw [hda, hau]; rfl⟩
    · exact List.mem_filter.2 ⟨List.getElem_mem hj, by rw [hdb, hbu]; rfl⟩
    · exact List.mem_filter.2 ⟨(hm _).2 hu, by rw [hdu, leq_refl]; rfl⟩
    · exact List.mem_filter.2 ⟨(hm _).2 hd, by rw [hdu, leq_refl]; rfl⟩
  · rw [h0]
    refine ⟨?_, rfl⟩
    have h1 := (mem_levF hv 0 A[i]).2 ⟨ha, by rw [h0]; rfl⟩
    have h2 : A[i] = List.replicate ps.length 0 := List.mem_singleton.1 h1
    have h3 : A[0]'(by omega) = List.replicate ps.length 0 := by
      have : cutsF ps = levF ps 0 ++ (List.range (off ps ps.length)).flatMap fun k => levF ps (k + 1) := by
        unfold cutsF cumF
        rw [List.range_succ_eq_map, List.flatMap_cons, List.flatMap_map]
      have e : A[0]? = some (List.replicate ps.length 0) := by rw [hA, this]; rfl
      rw [List.getElem?_eq_getElem (by omega)] at e
      exact Option.some.inj e
    exact ord_inj ho hi (by omega) (by rw [h2, h3])
  · obtain ⟨c1, c2, c3⟩ := isF_iff.1 ha
    have hpos : ∃ p, p < ps.length ∧ 0 < cAt A[i] p := by
      by_cases hx : ∃ p, p < ps.length ∧ 0 < cAt A[i] p
      · exact hx
      · exfalso
        have hle : leqF A[i] (List.replicate ps.length 0) = true := leq_iff_at.2 ⟨by simp; omega, fun p hp => by
          have h4 : ¬ 0 < cAt A[i] p := fun h => hx ⟨p, by omega, h⟩
          have h5 : cAt (List.replicate ps.length 0) p = 0 := by rw [cAt_nat (by simp; omega)]; simp
          omega⟩
        have := (leq_sum hle).1
        have e0 : (List.replicate ps.length (0 : Int)).sum = 0 := ((mem_levF hv 0 _).1 (List.mem_singleton.2 rfl)).2
        omega
    obtain ⟨p, hp, hp0, r1, r2⟩ := cut_remove hv c1 c2 c3 hpos
    have hpc : p < A[i].length := by omega
    have hdl : (A[i].set p (cAt A[i] p - 1)).length = A[i].length := List.length_set
    have hst : stpC (A[i].set p (cAt A[i] p - 1)) p = A[i] := by
      unfold stpC
      rw [setc_cAt hpc, if_pos rfl, List.set_set, show cAt A[i] p - 1 + 1 = cAt A[i] p by omega, cAt_nat hpc, List.set_getElem_self]
    have hsum := sum_stpC (c := A[i].set p (cAt A[i] p - 1)) (p := p) (by omega)
    rw [hst] at hsum
    refine ⟨A[i].set p (cAt A[i] p - 1), (mem_levF hv _ _).2 ⟨isF_iff.2 ⟨by omega, r1, r2⟩, by omega⟩, hdl, leq_iff_at.2 ⟨hdl, fun q hq => ?_⟩⟩
    rw [setc_cAt (by omega)]
    split
    · rename_i e; subst e; omega
    · exact Int.le_refl _
end Go.AL
end
section
/- Meets; equal or smaller cuts in lists. No condition. -/
namespace Go.AL
open Go Go.RowKit
set_option maxRecDepth 4000
theorem cut_Meet (ps : List Pr) (hs : Sm ps) (a b : List Int) : PC Go.Proofs.Tryz.prog 23 [aTr ps, aInts a, aInts b] (aComb ps a b fun x y => if y < x then y else x) := by
  have h1 : ∀ x y : Int, PC Go.Proofs.Tryz.prog 65 [ai x, ai y] (ai (if y < x then y else x)) := fun x y => by
    refine PC.enter 8 [.tmp 4] [] Go.Proofs.Tryz.func65 rfl rfl rfl rfl rfl (by simp) (AWp.of ?_); simp only [go_sem]
    repeat (first | ((with_reducible refine AWp.ofC ?_ ?_); (focus exact rfl); simp only [go_sem]) | ((with_reducible refine an ?_ ?_); focus exact Au))
    refine ret_eq ?_; simp only [go_sem]
  have h2 := cut_combine ps hs a b 65 (fun x y => if y < x then y else x) h1
  have hsp : ∃ c n, aComb ps a b (fun x y => if y < x then y else x) = .tup [aInts c, ai n] := by
    unfold aComb; split
    · exact ⟨[], _, rfl⟩
    · exact ⟨_, _, rfl⟩
  obtain ⟨c, n, hc⟩ := hsp
  rw [hc] at h2 ⊢
  clear hc
  refine PC.enter 14 [.tmp 6, .tmp 7] [3] Go.Proofs.Tryz.func23 rfl rfl rfl rfl rfl (by simp) (AWp.of ?_); simp only [go_sem]
  repeat (first | ((with_reducible refine AWp.ofC ?_ ?_); (focus exact rfl); simp only [go_sem]) | ((with_reducible refine an ?_ ?_); focus exact Au))
  repeat ((with_reducible refine an ?_ ?_); focus exact As)
  refine (h2).val.use ?_; simp only [go_sem]
  repeat (first | ((with_reducible refine AWp.ofC ?_ ?_); (focus exact rfl); simp only [go_sem]) | ((with_reducible refine an ?_ ?_); focus exact Au))
  refine ret_eq ?_; simp only [go_sem]
theorem ref15_Leq (a b : List Int) (ha : a.length ≤ 1000000) (hl : a.length = b.length) : PC Go.Proofs.Tryz.prog 33 [aInts a, aInts b] (ab (leqF a b)) := by
  refine PC.enter 21 [.tmp 4] [] Go.Proofs.Tryz.func33 rfl rfl rfl rfl rfl (by simp) (AWp.of ?_); simp only [go_sem]
  repeat (first | ((with_reducible refine AWp.ofC ?_ ?_); (focus exact rfl); simp only [go_sem]) | ((with_reducible refine an ?_ ?_); focus exact Au))
  refine AWp.block (AWp.count 5 a.length [] [0, 1] (fun k vs L => L = [] ∧ ∀ p : Nat, p < k → cAt a p ≤ cAt b p) rfl rfl ⟨rfl, fun p h => by omega⟩ ?_)
  rintro k vs L hk - ⟨rfl, hI⟩
  simp only [go_sem]
  repeat (first | ((with_reducible refine AWp.ofC ?_ ?_); (focus exact rfl); simp only [go_sem]) | ((with_reducible refine an ?_ ?_); focus exact Au))
  refine ⟨fun h3 => ?_, fun h3 => ?_⟩
  · have hka : k < a.length := by omega
    have hkb : k < b.length := by omega
    have ga := getD_map (f := ai) hka
    have gb := getD_map (f := ai) hkb
    have ea := cAt_nat hka
    have eb := cAt_nat hkb
    refine AWp.seq (AWp.block (AWp.seq ?_))
    refine AWp.read mixed [0, 1, 2, 3, 4, 5, 6, 7, 8] (by kernel_rfl) ?_; simp only [go_sem, ga, gb]
    repeat ((with_reducible refine an ?_ ?_); focus exact As)
    repeat (first | ((with_reducible refine AWp.ofC ?_ ?_); (focus exact rfl); simp only [go_sem]) | ((with_reducible refine an ?_ ?_); focus exact Au))
    refine ⟨fun h4 => ?_, fun h4 => ?_⟩
    · repeat (first | ((with_reducible refine AWp.ofC ?_ ?_); (focus exact rfl); simp only [go_sem]) | ((with_reducible refine an ?_ ?_); focus exact Au))
      refine ret_eq ?_; simp only [go_sem]
      cases hq : leqF a b with
      | false => rfl
      | true => have := (leq_iff_at.1 hq).2 k hka; omega
    · repeat (first | ((with_reducible refine AWp.ofC ?_ ?_); (focus exact rfl); simp only [go_sem]) | ((with_reducible refine an ?_ ?_); focus exact Au))
      refine ⟨_, List.Sublist.refl _, rfl, fun p hp => ?_⟩
      by_cases e : p = k
      · subst e; omega
      · exact hI p (by omega)
  · repeat (first | ((with_reducible refine AWp.ofC ?_ ?_); (focus exact rfl); simp only [go_sem]) | ((with_reducible refine an ?_ ?_); focus exact Au))
    refine ret_eq ?_; simp only [go_sem]
    rw [leq_iff_at.2 ⟨hl, fun p hp => hI p (by omega)⟩]
theorem law23_lat11 (c d : List Int) (hc : c.length ≤ 1000000) : PC Go.Proofs.Tryz.prog 28 [aInts d, .rp 1 [aInts c] 0 0] (ab (decide (c = d))) := by
  have h := ints_equal c d hc
  generalize decide (c = d) = e at *
  refine PC.enter 7 [.tmp 3] [] Go.Proofs.Tryz.func28 rfl rfl rfl rfl rfl (by simp) (AWp.of ?_); simp only [go_sem]
  repeat (first | ((with_reducible refine AWp.ofC ?_ ?_); (focus exact rfl); simp only [go_sem]) | ((with_reducible refine an ?_ ?_); focus exact Au))
  repeat ((with_reducible refine an ?_ ?_); focus exact As)
  refine (h).val.use ?_; simp only [go_sem]
  repeat (first | ((with_reducible refine AWp.ofC ?_ ?_); (focus exact rfl); simp only [go_sem]) | ((with_reducible refine an ?_ ?_); focus exact Au))
  refine ret_eq ?_; simp only [go_sem]
theorem law23_lat1 (c : List Int) (l : List (List Int)) (hc : c.length ≤ 1000000) (hl : l.length ≤ 1000000) : PC Go.Proofs.Tryz.prog 26 [aInts c, .rp 1 [aRows l] 0 0] (ab (l.any fun d => decide (c = d))) := by
  have h := rows_containsFunc l hl (.clo 28 [.rp 1 [aInts c] 0 0]) rfl (fun d => decide (c = d)) fun d _ => (law23_lat11 c d hc).clo
  have hR : ∀ x : List (List Int), aRows x = .sl 1 (x.map aInts) := fun _ => rfl
  generalize (l.any fun d => decide (c = d)) = e at *
  rw [hR] at *
  refine PC.enter 7 [.tmp 3] [2] Go.Proofs.Tryz.func26 rfl rfl rfl rfl rfl (by simp) (AWp.of ?_); simp only [go_sem]
  repeat (first | ((with_reducible refine AWp.ofC ?_ ?_); (focus exact rfl); simp only [go_sem]) | ((with_reducible refine an ?_ ?_); focus exact Au))
  repeat ((with_reducible refine an ?_ ?_); focus exact As)
  refine (h).val.use ?_; simp only [go_sem]
  repeat (first | ((with_reducible refine AWp.ofC ?_ ?_); (focus exact rfl); simp only [go_sem]) | ((with_reducible refine an ?_ ?_); focus exact Au))
  refine ret_eq ?_; simp only [go_sem]
theorem law23_lat2 (c a : List Int) (hc : c.length ≤ 1000000) : PC Go.Proofs.Tryz.prog 31 [aInts c, .rp 1 [aInts a] 0 0] (ab (decide (c = a))) := by
  have h := ints_equal c a hc
  generalize decide (c = a) = e at *
  refine PC.enter 7 [.tmp 3] [] Go.Proofs.Tryz.func31 rfl rfl rfl rfl rfl (by simp) (AWp.of ?_); simp only [go_sem]
  repeat (first | ((with_reducible refine AWp.ofC ?_ ?_); (focus exact rfl); simp only [go_sem]) | ((with_reducible refine an ?_ ?_); focus exact Au))
  repeat ((with_reducible refine an ?_ ?_); focus exact As)
  refine (h).val.use ?_; simp only [go_sem]
  repeat (first | ((with_reducible refine AWp.ofC ?_ ?_); (focus exact rfl); simp only [go_sem]) | ((with_reducible refine an ?_ ?_); focus exact Au))
  refine ret_eq ?_; simp only [go_sem]
theorem law23_lat3 (c a : List Int) (hc : c.length ≤ 1000000) : PC Go.Proofs.Tryz.prog 32 [aInts c, .rp 1 [aInts a] 0 0] (ab (leqF c a)) := by
  by_cases hl : c.length = a.length
  · have h := ref15_Leq c a hc hl
    have hli : decide ((c.length : Int) = a.length) = true := decide_eq_true (by omega)
    generalize leqF c a = e at *
    refine PC.enter 14 [.tmp 3] [] Go.Proofs.Tryz.func32 rfl rfl rfl rfl rfl (by simp) (AWp.of ?_); simp only [go_sem]
    repeat (first | ((with_reducible refine AWp.ofC ?_ ?_); (focus exact rfl); simp only [go_sem, hli]) | ((with_reducible refine an ?_ ?_); focus exact Au))
    repeat ((with_reducible refine an ?_ ?_); focus exact As)
    refine GCall.use (ab e) (fun _ => ⟨At, (h).val.use ⟨rfl, rfl⟩⟩) ?_; simp only [go_sem]
    repeat (first | ((with_reducible refine AWp.ofC ?_ ?_); (focus exact rfl); simp only [go_sem]) | ((with_reducible refine an ?_ ?_); focus exact Au))
    refine ret_eq ?_; simp only [go_sem]
  · have hli : decide ((c.length : Int) = a.length) = false := decide_eq_false (by omega)
    rw [leqF_ne hl]
    refine PC.enter 14 [.tmp 3] [] Go.Proofs.Tryz.func32 rfl rfl rfl rfl rfl (by simp) (AWp.of ?_); simp only [go_sem]
    repeat (first | ((with_reducible refine AWp.ofC ?_ ?_); (focus exact rfl); simp only [go_sem, hli]) | ((with_reducible refine an ?_ ?_); focus exact Au))
    refine GCall.use (ab false) (fun g => by simp at g) ?_
    simp only [go_sem]
    repeat (first | ((with_reducible refine AWp.ofC ?_ ?_); (focus exact rfl); simp only [go_sem]) | ((with_reducible refine an ?_ ?_); focus exact Au))
    refine ret_eq ?_; simp only [go_sem]
end Go.AL
end
