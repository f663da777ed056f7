/- Texts of this claim's proof: WXh, WXi, WRt, WRt4. No condition. -/
import Derived.Test.YtkijaghkhjoomaaGreatM11
import Derived.Test.YtkijaghkhjoomaaGreatM4
import Derived.Test.YtkijaghkhjoomaaGreatM5
section
/- The law CutsPlaces: the walk. No condition. -/
namespace Go.AL
open Go Go.RowKit
set_option maxRecDepth 4000
theorem chk_bad {ps : List Pr} (hv : validF ps = true) {l : List (List Int)} {c : List Int} (hc : c ∈ l) (h : isF ps c = false) : chkE ps l = 18 := by
  unfold chkE
  rw [hv, if_pos rfl, if_pos (List.any_eq_true.2 ⟨c, hc, by rw [h]; rfl⟩)]
set_option maxHeartbeats 4000000 in
theorem places_walk {ps : List Pr} {a b : List Int} (hl : ps.length ≤ 9223372036854775807) (hf : fewF ps = true) (hs : Sm ps) (hv : validF ps = true) (ha : a.length ≤ 40) (hb : b.length ≤ 40) : PC Go.Proofs.Tryz.prog 6 [aTr ps, aInts a, aInts b] (ab true) := by
  have haw := law23_awake
  have hfew := law23_few ps hl
  have hFi := cuts_Find ps hs a
  have hB := cuts_Between ps hs a b
  have hIr := cuts_Irreducible ps hs a
  have hO := cuts_Order ps hs
  have hLi := law23_listed ps hs
  have hR : ∀ x : List (List Int), aRows x = .sl 1 (x.map aInts) := fun _ => rfl
  obtain ⟨hl1, hl8⟩ := valid_len hv
  have hIa := ref23_Is ps hs hl1 a
  have hIb := ref23_Is ps hs hl1 b
  have hRI := fun h => ref23_Irr ps hs hl1 a h
  rw [hf] at hfew
  unfold aLst at hLi
  unfold aRelR at hO
  have z0 : ((0 : Nat) : Int) = 0 := rfl
  have hga : ¬ (40 : Int) < (a.length : Int) := by omega
  have hgb : ¬ (40 : Int) < (b.length : Int) := by omega
  have hE1 : lstE ps = 0 ∨ lstE ps = 16 := by unfold lstE; rw [hv, if_pos rfl]; split <;> simp
  have hch1 : isF ps a = true → chkE ps [a] = 0 := fun h => chk_zero.2 ⟨hv, by simpa using h⟩
  have hch2 : isF ps a = false → chkE ps [a] = 18 := fun h => chk_bad hv (by simp) h
  have hch3 : isF ps a = true → isF ps b = true → chkE ps [a, b] = 0 := fun h g => chk_zero.2 ⟨hv, by simpa using ⟨h, g⟩⟩
  have hch4 : isF ps a = false → chkE ps [a, b] = 18 := fun h => chk_bad hv (by simp) h
  have hch5 : isF ps b = false → chkE ps [a, b] = 18 := fun h => chk_bad hv (by simp) h
  have hfe1 : fndE ps [a] = if chkE ps [a] ≠ 0 then chkE ps [a] else lstE ps := rfl
  have hfe2 : fndE ps [a, b] = if chkE ps [a, b] ≠ 0 then chkE ps [a, b] else lstE ps := rfl
  have hfi : fndI ps a = if fndE ps [a] = 0 then idxF (cutsF ps) a else 0 := rfl
  have hbt : btwF ps a b = if fndE ps [a, b] = 0 then (cutsF ps).filter fun c => leqF a c && leqF c b else [] := rfl
  have hoe : ordE ps = if lstE ps ≠ 0 then lstE ps else if 512 < (cutsF ps).length then 9 else 0 := rfl
  have hor : ordR ps = if ordE ps = 0 then incR (cutsF ps) else [] := rfl
  have hlf : lstF ps = if lstE ps = 0 then cutsF ps else [] := rfl
  have h5 : lstE ps = 0 → (cutsF ps).length ≤ 5000 := fun h => (lst_zero.1 h).2
  have hxl : ∀ x ∈ cutsF ps, x.length = ps.length := fun x hx => (isF_iff.1 ((mem_cutsF hv).1 hx)).1
  have hal : isF ps a = true → a.length = ps.length := fun h => (isF_iff.1 h).1
  have hbl : isF ps b = true → b.length = ps.length := fun h => (isF_iff.1 h).1
  generalize fndI ps a = n at *
  generalize fndE ps [a] = e1 at *
  generalize fndE ps [a, b] = f1 at *
  generalize btwF ps a b = bt at *
  generalize chkE ps [a] = g1 at *
  generalize chkE ps [a, b] = g2 at *
  generalize ordE ps = oe at *
  generalize ordR ps = rs at *
  generalize lstF ps = want at *
  generalize lstE ps = ft at *
  generalize cutsF ps = cs at *
  generalize hir : (decide (g1 = 0) && irrF ps a) = ir at *
  have hft1 : ¬ ft = 1 := by omega
  refine PC.enter 226 [.tmp 6] [3, 13] Go.Proofs.Tryz.func6 rfl rfl rfl rfl rfl (by simp) (AWp.of ?_); simp only [go_sem]
  repeat (first | ((with_reducible refine AWp.ofC ?_ ?_); (focus exact rfl); simp only [go_sem]) | ((with_reducible refine an ?_ ?_); focus exact Au))
  repeat ((with_reducible refine an ?_ ?_); focus exact As)
  refine (haw).val.use ?_; simp only [go_sem]
  repeat (first | ((with_reducible refine AWp.ofC ?_ ?_); (focus exact rfl); simp only [go_sem]) | ((with_reducible refine an ?_ ?_); focus exact Au))
  repeat ((with_reducible refine an ?_ ?_); focus exact As)
  refine (hfew).val.use ?_; simp only [go_sem]
  repeat (first | ((with_reducible refine AWp.ofC ?_ ?_); (focus exact rfl); simp only [go_sem, hga, hgb]) | ((with_reducible refine an ?_ ?_); focus exact Au))
  repeat ((with_reducible refine an ?_ ?_); focus exact As)
  refine (hFi).val.use ?_; simp only [go_sem]
  repeat (first | ((with_reducible refine AWp.ofC ?_ ?_); (focus exact rfl); simp only [go_sem]) | ((with_reducible refine an ?_ ?_); focus exact Au))
  repeat ((with_reducible refine an ?_ ?_); focus exact As)
  refine (hB).val.use ?_; simp only [go_sem]
  repeat (first | ((with_reducible refine AWp.ofC ?_ ?_); (focus exact rfl); simp only [go_sem]) | ((with_reducible refine an ?_ ?_); focus exact Au))
  repeat ((with_reducible refine an ?_ ?_); focus exact As)
  refine (hIr).val.use ?_; simp only [go_sem]
  repeat (first | ((with_reducible refine AWp.ofC ?_ ?_); (focus exact rfl); simp only [go_sem]) | ((with_reducible refine an ?_ ?_); focus exact Au))
  repeat ((with_reducible refine an ?_ ?_); focus exact As)
  refine (hO).val.use ?_; simp only [go_sem]
  repeat (first | ((with_reducible refine AWp.ofC ?_ ?_); (focus exact rfl); simp only [go_sem]) | ((with_reducible refine an ?_ ?_); focus exact Au))
  intro b13
  repeat (first | ((with_reducible refine AWp.ofC ?_ ?_); (focus exact rfl); simp only [go_sem]) | ((with_reducible refine an ?_ ?_); focus exact Au))
  repeat ((with_reducible refine an ?_ ?_); focus exact As)
  refine (hLi).val.use ?_; simp only [go_sem]
  repeat ((with_reducible refine an ?_ ?_); focus exact As)
  refine AWp.of ?_; simp only [go_sem, hft1]
  repeat ((with_reducible refine an ?_ ?_); focus exact As)
  refine AWp.of ?_; simp only [go_sem]
  refine AWp.cut [1, 2, 3, 7, 8, 9, 10, 11, 12, 15, 16] (fun vs L => L = [] ∧ vs = [aInts a, aInts b, .rp 1 [aTr ps] 0 0, ai n, ai e1, aRows bt, ai f1, ab ir, ai g1, aRows want, ai ft]) ?_ ?_
  · refine AWp.block ?_
    rcases hE1 with rfl | rfl
    · rw [if_neg (by simp)] at hoe
      rw [if_pos rfl] at hlf
      subst hlf
      have h5 := h5 rfl
      by_cases h512 : 512 < want.length
      · rw [if_pos h512] at hoe
        subst hoe
        rw [if_neg (by decide)] at hor
        subst hor
        have hgt : (512 : Int) < (want.length : Int) := by omega
        clear hFi hB hIr hO hLi hIa hIb hRI hch1 hch2 hch3 hch4 hch5 hfe1 hfe2 hfi hbt haw hfew
        repeat (first | ((with_reducible refine AWp.ofC ?_ ?_); (focus exact rfl); simp only [go_sem, z0, hgt]) | ((with_reducible refine an ?_ ?_); focus exact Au))
        exact ⟨_, List.Sublist.refl _, rfl⟩
      · rw [if_neg h512] at hoe
        subst hoe
        rw [if_pos rfl] at hor
        subst hor
        have hgt : ¬ (512 : Int) < (want.length : Int) := by omega
        have hIn := ref23_Inclusion want (by omega) ps.length (by omega) hxl
        have hFr := ref03_From (incT want) (by rw [incT_len]; omega) (fun r hr => by
          unfold incT at hr
          obtain ⟨i, _, rfl⟩ := List.mem_map.1 hr
          rw [incT_len]; simp)
        rw [rel_inc, incT_len] at hFr
        have hSm := ref03_Same want.length (incR want) (by simp [incR]; omega) (fun r hr => by
          unfold incR at hr
          obtain ⟨i, _, rfl⟩ := List.mem_map.1 hr
          rw [words_len]; unfold nW; omega)
        unfold aRelR at hFr hSm
        unfold aTab at hIn hFr
        generalize (incR want).map (aBits want.length) = R at *
        generalize (incT want).map aBs = T at *
        clear hFi hB hIr hO hLi hIa hIb hRI hch1 hch2 hch3 hch4 hch5 hfe1 hfe2 hfi hbt haw hfew
        repeat (first | ((with_reducible refine AWp.ofC ?_ ?_); (focus exact rfl); simp only [go_sem, Int.reduceEq, hgt]) | ((with_reducible refine an ?_ ?_); focus exact Au))
        refine AWp.read mixed [0, 1, 2, 3, 4, 5, 6, 7, 8, 9, 10] (by kernel_rfl) ?_; simp only [go_sem]
        repeat ((with_reducible refine an ?_ ?_); focus exact As)
        refine GCall.use (.sl 1 T) (fun _ => ⟨At, (hIn).val.use ⟨rfl, rfl⟩⟩) ?_; simp only [go_sem]
        repeat ((with_reducible refine an ?_ ?_); focus exact As)
        refine GCall.use (.agg [.sl 2 R]) (fun _ => ⟨At, (hFr).val.use ⟨rfl, rfl⟩⟩) ?_; simp only [go_sem]
        repeat ((with_reducible refine an ?_ ?_); focus exact As)
        refine GCall.use (ab true) (fun _ => ⟨At, (hSm).val.use ⟨rfl, rfl⟩⟩) ?_; simp only [go_sem]
        repeat (first | ((with_reducible refine AWp.ofC ?_ ?_); (focus exact rfl); simp only [go_sem]) | ((with_reducible refine an ?_ ?_); focus exact Au))
        exact ⟨_, List.Sublist.refl _, rfl⟩
    · rw [if_pos (by decide)] at hoe
      subst hoe
      rw [if_neg (by decide)] at hor hlf
      subst hor hlf
      clear hFi hB hIr hO hLi hIa hIb hRI hch1 hch2 hch3 hch4 hch5 hfe1 hfe2 hfi hbt haw hfew
      repeat (first | ((with_reducible refine AWp.ofC ?_ ?_); (focus exact rfl); simp only [go_sem, Int.reduceEq, z0]) | ((with_reducible refine an ?_ ?_); focus exact Au))
      exact ⟨_, List.Sublist.refl _, rfl⟩
  · rintro vs L - ⟨rfl, rfl⟩
    simp only [go_sem]
    clear hFi hB hIr hO hLi haw hfew hoe hor
    cases hia : isF ps a with
    | false =>
      rw [hia] at hIa
      rw [hch2 hia, hch4 hia] at *
      rw [if_pos (by decide)] at hfe1 hfe2
      rw [hfe1, if_neg (by decide)] at hfi
      rw [hfe2, if_neg (by decide)] at hbt
      subst hfe1 hfe2 hfi hbt hir
      repeat (first | ((with_reducible refine AWp.ofC ?_ ?_); (focus exact rfl); simp only [go_sem]) | ((with_reducible refine an ?_ ?_); focus exact Au))
      repeat ((with_reducible refine an ?_ ?_); focus exact As)
      refine (hIa).val.use ?_; simp only [go_sem]
      repeat (first | ((with_reducible refine AWp.ofC ?_ ?_); (focus exact rfl); simp only [go_sem, Int.reduceEq, z0]) | ((with_reducible refine an ?_ ?_); focus exact Au))
      refine ret_eq ?_; simp only [go_sem]
    | true =>
      rw [hia] at hIa
      have hRI := hRI hia
      have hal := hal hia
      have g1z := hch1 hia
      subst g1z
      have hir2 : ir = irrF ps a := by rw [← hir]; rfl
      subst hir2
      clear hir hch1 hch2 hch4
      rw [if_neg (by simp)] at hfe1
      generalize irrF ps a = ir at *
      rcases hE1 with rfl | rfl
      · subst hfe1
        rw [if_pos rfl] at hfi hlf
        subst hlf
        have h5 := h5 rfl
        have hFd := ref23_Find want a (by omega) (fun x hx => by rw [hxl x hx]; omega)
        subst hfi
        generalize idxF want a = n at *
        cases hib : isF ps b with
        | false =>
          rw [hib] at hIb
          rw [hch5 hib, if_pos (by decide)] at hfe2
          rw [hfe2, if_neg (by decide)] at hbt
          subst hfe2 hbt
          repeat (first | ((with_reducible refine AWp.ofC ?_ ?_); (focus exact rfl); simp only [go_sem]) | ((with_reducible refine an ?_ ?_); focus exact Au))
          repeat ((with_reducible refine an ?_ ?_); focus exact As)
          refine (hIa).val.use ?_; simp only [go_sem]
          repeat (first | ((with_reducible refine AWp.ofC ?_ ?_); (focus exact rfl); simp only [go_sem, Int.reduceEq]) | ((with_reducible refine an ?_ ?_); focus exact Au))
          repeat ((with_reducible refine an ?_ ?_); focus exact As)
          refine GCall.use (ab ir) (fun _ => ⟨At, (hRI).val.use ⟨rfl, rfl⟩⟩) ?_; simp only [go_sem]
          repeat (first | ((with_reducible refine AWp.ofC ?_ ?_); (focus exact rfl); simp only [go_sem]) | ((with_reducible refine an ?_ ?_); focus exact Au))
          repeat ((with_reducible refine an ?_ ?_); focus exact As)
          refine GCall.use (ai n) (fun _ => ⟨At, (hFd).val.use ⟨rfl, rfl⟩⟩) ?_; simp only [go_sem]
          repeat (first | ((with_reducible refine AWp.ofC ?_ ?_); (focus exact rfl); simp only [go_sem]) | ((with_reducible refine an ?_ ?_); focus exact Au))
          repeat ((with_reducible refine an ?_ ?_); focus exact As)
          refine (hIb).val.use ?_; simp only [go_sem]
          repeat (first | ((with_reducible refine AWp.ofC ?_ ?_); (focus exact rfl); simp only [go_sem, z0]) | ((with_reducible refine an ?_ ?_); focus exact Au))
          refine ret_eq ?_; simp only [go_sem]
        | true =>
          rw [hib] at hIb
          have hbl := hbl hib
          rw [hch3 hia hib, if_neg (by simp)] at hfe2
          rw [hfe2, if_pos rfl] at hbt
          subst hfe2 hbt
          have hBw := ref23_Between want a b (by omega) ps.length (by omega) hal hbl hxl
          have hfll := List.length_filter_le (fun c => leqF a c && leqF c b) want
          have hSR := ref15_SameRows (want.filter fun c => leqF a c && leqF c b) (want.filter fun c => leqF a c && leqF c b) (by omega) (fun x hx => by rw [hxl x (List.mem_filter.1 hx).1]; omega)
          rw [decide_eq_true rfl] at hSR
          generalize (want.filter fun c => leqF a c && leqF c b) = bt at *
          repeat (first | ((with_reducible refine AWp.ofC ?_ ?_); (focus exact rfl); simp only [go_sem]) | ((with_reducible refine an ?_ ?_); focus exact Au))
          repeat ((with_reducible refine an ?_ ?_); focus exact As)
          refine (hIa).val.use ?_; simp only [go_sem]
          repeat (first | ((with_reducible refine AWp.ofC ?_ ?_); (focus exact rfl); simp only [go_sem, Int.reduceEq]) | ((with_reducible refine an ?_ ?_); focus exact Au))
          repeat ((with_reducible refine an ?_ ?_); focus exact As)
          refine GCall.use (ab ir) (fun _ => ⟨At, (hRI).val.use ⟨rfl, rfl⟩⟩) ?_; simp only [go_sem]
          repeat (first | ((with_reducible refine AWp.ofC ?_ ?_); (focus exact rfl); simp only [go_sem]) | ((with_reducible refine an ?_ ?_); focus exact Au))
          repeat ((with_reducible refine an ?_ ?_); focus exact As)
          refine GCall.use (ai n) (fun _ => ⟨At, (hFd).val.use ⟨rfl, rfl⟩⟩) ?_; simp only [go_sem]
          repeat (first | ((with_reducible refine AWp.ofC ?_ ?_); (focus exact rfl); simp only [go_sem]) | ((with_reducible refine an ?_ ?_); focus exact Au))
          repeat ((with_reducible refine an ?_ ?_); focus exact As)
          refine (hIb).val.use ?_; simp only [go_sem]
          repeat (first | ((with_reducible refine AWp.ofC ?_ ?_); (focus exact rfl); simp only [go_sem, Int.reduceEq]) | ((with_reducible refine an ?_ ?_); focus exact Au))
          repeat ((with_reducible refine an ?_ ?_); focus exact As)
          refine GCall.use (aRows bt) (fun _ => ⟨At, (hBw).val.use ⟨rfl, rfl⟩⟩) ?_; simp only [go_sem]
          repeat ((with_reducible refine an ?_ ?_); focus exact As)
          refine GCall.use (ab true) (fun _ => ⟨At, (hSR).val.use ⟨rfl, rfl⟩⟩) ?_; simp only [go_sem]
          repeat (first | ((with_reducible refine AWp.ofC ?_ ?_); (focus exact rfl); simp only [go_sem]) | ((with_reducible refine an ?_ ?_); focus exact Au))
          refine ret_eq ?_; simp only [go_sem]
      · subst hfe1
        rw [if_neg (by decide)] at hfi hlf
        subst hlf hfi
        cases hib : isF ps b with
        | false =>
          rw [hib] at hIb
          rw [hch5 hib, if_pos (by decide)] at hfe2
          rw [hfe2, if_neg (by decide)] at hbt
          subst hfe2 hbt
          repeat (first | ((with_reducible refine AWp.ofC ?_ ?_); (focus exact rfl); simp only [go_sem]) | ((with_reducible refine an ?_ ?_); focus exact Au))
          repeat ((with_reducible refine an ?_ ?_); focus exact As)
          refine (hIa).val.use ?_; simp only [go_sem]
          repeat (first | ((with_reducible refine AWp.ofC ?_ ?_); (focus exact rfl); simp only [go_sem, Int.reduceEq]) | ((with_reducible refine an ?_ ?_); focus exact Au))
          repeat ((with_reducible refine an ?_ ?_); focus exact As)
          refine GCall.use (ab ir) (fun _ => ⟨At, (hRI).val.use ⟨rfl, rfl⟩⟩) ?_; simp only [go_sem]
          repeat (first | ((with_reducible refine AWp.ofC ?_ ?_); (focus exact rfl); simp only [go_sem, Int.reduceEq]) | ((with_reducible refine an ?_ ?_); focus exact Au))
          repeat ((with_reducible refine an ?_ ?_); focus exact As)
          refine (hIb).val.use ?_; simp only [go_sem]
          repeat (first | ((with_reducible refine AWp.ofC ?_ ?_); (focus exact rfl); simp only [go_sem, Int.reduceEq, z0]) | ((with_reducible refine an ?_ ?_); focus exact Au))
          refine ret_eq ?_; simp only [go_sem]
        | true =>
          rw [hib] at hIb
          rw [hch3 hia hib, if_neg (by simp)] at hfe2
          rw [hfe2, if_neg (by decide)] at hbt
          subst hfe2 hbt
          repeat (first | ((with_reducible refine AWp.ofC ?_ ?_); (focus exact rfl); simp only [go_sem]) | ((with_reducible refine an ?_ ?_); focus exact Au))
          repeat ((with_reducible refine an ?_ ?_); focus exact As)
          refine (hIa).val.use ?_; simp only [go_sem]
          repeat (first | ((with_reducible refine AWp.ofC ?_ ?_); (focus exact rfl); simp only [go_sem, Int.reduceEq]) | ((with_reducible refine an ?_ ?_); focus exact Au))
          repeat ((with_reducible refine an ?_ ?_); focus exact As)
          refine GCall.use (ab ir) (fun _ => ⟨At, (hRI).val.use ⟨rfl, rfl⟩⟩) ?_; simp only [go_sem]
          repeat (first | ((with_reducible refine AWp.ofC ?_ ?_); (focus exact rfl); simp only [go_sem, Int.reduceEq]) | ((with_reducible refine an ?_ ?_); focus exact Au))
          repeat ((with_reducible refine an ?_ ?_); focus exact As)
          refine (hIb).val.use ?_; simp only [go_sem]
          repeat (first | ((with_reducible refine AWp.ofC ?_ ?_); (focus exact rfl); simp only [go_sem, Int.reduceEq, z0]) | ((with_reducible refine an ?_ ?_); focus exact Au))
          refine ret_eq ?_; simp only [go_sem]
end Go.AL
end
section
/- The law CutsPlaces. No condition. -/
namespace Go.AL
open Go Go.RowKit
set_option maxRecDepth 4000
theorem places_bad {ps : List Pr} {a b : List Int} (hl : ps.length ≤ 9223372036854775807) (hf : fewF ps = true) (hs : Sm ps) (hv : validF ps = false) (ha : a.length ≤ 40) (hb : b.length ≤ 40) : PC Go.Proofs.Tryz.prog 6 [aTr ps, aInts a, aInts b] (ab true) := by
  have haw := law23_awake
  have hfew := law23_few ps hl
  have hFi := cuts_Find ps hs a
  have hB := cuts_Between ps hs a b
  have hIr := cuts_Irreducible ps hs a
  have hO := cuts_Order ps hs
  have hLi := law23_listed ps hs
  rw [hf] at hfew
  unfold aLst at hLi
  unfold aRelR at hO
  have z0 : ((0 : Nat) : Int) = 0 := rfl
  have hga : ¬ (40 : Int) < (a.length : Int) := by omega
  have hgb : ¬ (40 : Int) < (b.length : Int) := by omega
  have e1 : lstE ps = 1 := by unfold lstE; rw [hv]; rfl
  have e2 : lstF ps = [] := by unfold lstF; rw [e1]; rfl
  have e3 : ∀ l, chkE ps l = 1 := fun l => by unfold chkE; rw [hv]; rfl
  have e4 : ∀ l, fndE ps l = 1 := fun l => by unfold fndE; rw [e3]; rfl
  have e5 : fndI ps a = 0 := by unfold fndI; rw [e4]; rfl
  have e6 : btwF ps a b = [] := by unfold btwF; rw [e4]; rfl
  have e7 : ordE ps = 1 := by unfold ordE; rw [e1]; rfl
  have e8 : ordR ps = [] := by unfold ordR; rw [e7]; rfl
  rw [e5, e4] at hFi
  rw [e6, e4] at hB
  rw [e3] at hIr
  rw [e7, e8] at hO
  rw [e1, e2] at hLi
  change PC _ _ _ (.tup [ab false, ai 1]) at hIr
  change PC _ _ _ (.tup [.agg [.sl 2 []], ai 1]) at hO
  refine PC.enter 226 [.tmp 6] [3, 13] Go.Proofs.Tryz.func6 rfl rfl rfl rfl rfl (by simp) (AWp.of ?_); simp only [go_sem]
  repeat (first | ((with_reducible refine AWp.ofC ?_ ?_); (focus exact rfl); simp only [go_sem]) | ((with_reducible refine an ?_ ?_); focus exact Au))
  repeat ((with_reducible refine an ?_ ?_); focus exact As)
  refine (haw).val.use ?_; simp only [go_sem]
  repeat (first | ((with_reducible refine AWp.ofC ?_ ?_); (focus exact rfl); simp only [go_sem]) | ((with_reducible refine an ?_ ?_); focus exact Au))
  repeat ((with_reducible refine an ?_ ?_); focus exact As)
  refine (hfew).val.use ?_; simp only [go_sem]
  repeat (first | ((with_reducible refine AWp.ofC ?_ ?_); (focus exact rfl); simp only [go_sem, hga, hgb]) | ((with_reducible refine an ?_ ?_); focus exact Au))
  repeat ((with_reducible refine an ?_ ?_); focus exact As)
  refine (hFi).val.use ?_; simp only [go_sem]
  repeat (first | ((with_reducible refine AWp.ofC ?_ ?_); (focus exact rfl); simp only [go_sem]) | ((with_reducible refine an ?_ ?_); focus exact Au))
  repeat ((with_reducible refine an ?_ ?_); focus exact As)
  refine (hB).val.use ?_; simp only [go_sem]
  repeat (first | ((with_reducible refine AWp.ofC ?_ ?_); (focus exact rfl); simp only [go_sem]) | ((with_reducible refine an ?_ ?_); focus exact Au))
  repeat ((with_reducible refine an ?_ ?_); focus exact As)
  refine (hIr).val.use ?_; simp only [go_sem]
  repeat (first | ((with_reducible refine AWp.ofC ?_ ?_); (focus exact rfl); simp only [go_sem]) | ((with_reducible refine an ?_ ?_); focus exact Au))
  repeat ((with_reducible refine an ?_ ?_); focus exact As)
  refine (hO).val.use ?_; simp only [go_sem]
  repeat (first | ((with_reducible refine AWp.ofC ?_ ?_); (focus exact rfl); simp only [go_sem]) | ((with_reducible refine an ?_ ?_); focus exact Au))
  intro b13
  repeat (first | ((with_reducible refine AWp.ofC ?_ ?_); (focus exact rfl); simp only [go_sem]) | ((with_reducible refine an ?_ ?_); focus exact Au))
  repeat ((with_reducible refine an ?_ ?_); focus exact As)
  refine (hLi).val.use ?_; simp only [go_sem]
  repeat (first | ((with_reducible refine AWp.ofC ?_ ?_); (focus exact rfl); simp only [go_sem, z0]) | ((with_reducible refine an ?_ ?_); focus exact Au))
  refine ret_eq ?_; simp only [go_sem]
theorem law23_CutsPlaces (ps : List Pr) (a b : List Int) (hl : ps.length ≤ 9223372036854775807) : PC Go.Proofs.Tryz.prog 6 [aTr ps, aInts a, aInts b] (ab true) := by
  have haw := law23_awake
  have hfew := law23_few ps hl
  cases hf : fewF ps with
  | false =>
    rw [hf] at hfew
    refine PC.enter 226 [.tmp 6] [3, 13] Go.Proofs.Tryz.func6 rfl rfl rfl rfl rfl (by simp) (AWp.of ?_); simp only [go_sem]
    repeat (first | ((with_reducible refine AWp.ofC ?_ ?_); (focus exact rfl); simp only [go_sem]) | ((with_reducible refine an ?_ ?_); focus exact Au))
    repeat ((with_reducible refine an ?_ ?_); focus exact As)
    refine (haw).val.use ?_; simp only [go_sem]
    repeat (first | ((with_reducible refine AWp.ofC ?_ ?_); (focus exact rfl); simp only [go_sem]) | ((with_reducible refine an ?_ ?_); focus exact Au))
    repeat ((with_reducible refine an ?_ ?_); focus exact As)
    refine (hfew).val.use ?_; simp only [go_sem]
    repeat (first | ((with_reducible refine AWp.ofC ?_ ?_); (focus exact rfl); simp only [go_sem]) | ((with_reducible refine an ?_ ?_); focus exact Au))
    refine ret_eq ?_; simp only [go_sem]
  | true =>
    rw [hf] at hfew
    by_cases ha : a.length ≤ 40
    · by_cases hb : b.length ≤ 40
      · cases hv : validF ps with
        | true => exact places_walk hl hf (fewF_sm hf) hv ha hb
        | false => exact places_bad hl hf (fewF_sm hf) hv ha hb
      · have hga : ¬ (40 : Int) < (a.length : Int) := by omega
        have hgb : (40 : Int) < (b.length : Int) := by omega
        refine PC.enter 226 [.tmp 6] [3, 13] Go.Proofs.Tryz.func6 rfl rfl rfl rfl rfl (by simp) (AWp.of ?_); simp only [go_sem]
        repeat (first | ((with_reducible refine AWp.ofC ?_ ?_); (focus exact rfl); simp only [go_sem]) | ((with_reducible refine an ?_ ?_); focus exact Au))
        repeat ((with_reducible refine an ?_ ?_); focus exact As)
        refine (haw).val.use ?_; simp only [go_sem]
        repeat (first | ((with_reducible refine AWp.ofC ?_ ?_); (focus exact rfl); simp only [go_sem]) | ((with_reducible refine an ?_ ?_); focus exact Au))
        repeat ((with_reducible refine an ?_ ?_); focus exact As)
        refine (hfew).val.use ?_; simp only [go_sem]
        repeat (first | ((with_reducible refine AWp.ofC ?_ ?_); (focus exact rfl); simp only [go_sem, hga, hgb]) | ((with_reducible refine an ?_ ?_); focus exact Au))
        refine ret_eq ?_; simp only [go_sem]
    · have hga : (40 : Int) < (a.length : Int) := by omega
      refine PC.enter 226 [.tmp 6] [3, 13] Go.Proofs.Tryz.func6 rfl rfl rfl rfl rfl (by simp) (AWp.of ?_); simp only [go_sem]
      repeat (first | ((with_reducible refine AWp.ofC ?_ ?_); (focus exact rfl); simp only [go_sem]) | ((with_reducible refine an ?_ ?_); focus exact Au))
      repeat ((with_reducible refine an ?_ ?_); focus exact As)
      refine (haw).val.use ?_; simp only [go_sem]
      repeat (first | ((with_reducible refine AWp.ofC ?_ ?_); (focus exact rfl); simp only [go_sem]) | ((with_reducible refine an ?_ ?_); focus exact Au))
      repeat ((with_reducible refine an ?_ ?_); focus exact As)
      refine (hfew).val.use ?_; simp only [go_sem]
      repeat (first | ((with_reducible refine AWp.ofC ?_ ?_); (focus exact rfl); simp only [go_sem, hga]) | ((with_reducible refine an ?_ ?_); focus exact Au))
      refine ret_eq ?_; simp only [go_sem]
end Go.AL
end
section
/- What is read of arguments that are traces or lists. No condition. -/
namespace Go.AL
open Go Go.RowKit
set_option maxRecDepth 100000
section
variable {H : Type} {enc : TypeId × Value → H} {W : World}
theorem rdInts : Rd enc Go.Proofs.Tryz.prog W 43 1 aInts (fun l => l.length ≤ maxLen) :=
  (Rd.slice Go.Proofs.Tryz.underlying43 (by kernel_rfl : Program.cellsOf Go.Proofs.Tryz.prog 3 = 1) (by decide) (Rd.int Go.Proofs.Tryz.underlying3)).map id (fun _ => rfl) (fun _ h => h.1)
theorem rdAsg : Rd enc Go.Proofs.Tryz.prog W 126 2 aAsg (fun _ => True) :=
  (Rd.struct (ts := [3, 3]) Go.Proofs.Tryz.underlying126 rfl rfl (by kernel_rfl) (by kernel_rfl)
    (.cons (Rd.int Go.Proofs.Tryz.underlying3) (fun _ => ⟨rfl, rfl⟩) (.cons (Rd.int Go.Proofs.Tryz.underlying3) (fun _ => ⟨rfl, rfl⟩) .nil))).map (fun (y : Int × Int × Unit) => (y.1, y.2.1)) (fun _ => rfl) (fun _ _ => trivial)
theorem rdAsgs : Rd enc Go.Proofs.Tryz.prog W 83 1 aAsgs (fun _ => True) :=
  (Rd.slice Go.Proofs.Tryz.underlying83 (by kernel_rfl : Program.cellsOf Go.Proofs.Tryz.prog 126 = 2) (by decide) rdAsg).map id (fun _ => rfl) (fun _ _ => trivial)
theorem rdVar : Rd enc Go.Proofs.Tryz.prog W 123 2 aVar (fun _ => True) :=
  (Rd.struct (ts := [9, 3]) Go.Proofs.Tryz.underlying123 rfl rfl (by kernel_rfl) (by kernel_rfl)
    (.cons (Rd.str Go.Proofs.Tryz.underlying9) (fun _ => ⟨rfl, rfl⟩) (.cons (Rd.int Go.Proofs.Tryz.underlying3) (fun _ => ⟨rfl, rfl⟩) .nil))).map (fun (y : ByteArray × Int × Unit) => (y.1, y.2.1)) (fun _ => rfl) (fun _ _ => trivial)
theorem rdVars : Rd enc Go.Proofs.Tryz.prog W 78 1 aVars (fun _ => True) :=
  (Rd.slice Go.Proofs.Tryz.underlying78 (by kernel_rfl : Program.cellsOf Go.Proofs.Tryz.prog 123 = 2) (by decide) rdVar).map id (fun _ => rfl) (fun _ _ => trivial)
theorem rdEv : Rd enc Go.Proofs.Tryz.prog W 85 5 aEv (fun _ => True) :=
  (Rd.struct (ts := [3, 3, 3, 3, 83]) Go.Proofs.Tryz.underlying85 rfl rfl (by kernel_rfl) (by kernel_rfl)
    (.cons (Rd.int Go.Proofs.Tryz.underlying3) (fun _ => ⟨rfl, rfl⟩) (.cons (Rd.int Go.Proofs.Tryz.underlying3) (fun _ => ⟨rfl, rfl⟩) (.cons (Rd.int Go.Proofs.Tryz.underlying3) (fun _ => ⟨rfl, rfl⟩)
      (.cons (Rd.int Go.Proofs.Tryz.underlying3) (fun _ => ⟨rfl, rfl⟩) (.cons rdAsgs (fun _ => ⟨rfl, rfl⟩) .nil)))))).map (fun (y : Int × Int × Int × Int × List (Int × Int) × Unit) => ⟨y.1, y.2.1, y.2.2.1, y.2.2.2.1, y.2.2.2.2.1⟩) (fun _ => rfl) (fun _ _ => trivial)
theorem rdEvs : Rd enc Go.Proofs.Tryz.prog W 79 1 aEvs (fun _ => True) :=
  (Rd.slice Go.Proofs.Tryz.underlying79 (by kernel_rfl : Program.cellsOf Go.Proofs.Tryz.prog 85 = 5) (by decide) rdEv).map id (fun _ => rfl) (fun _ _ => trivial)
theorem rdPr : Rd enc Go.Proofs.Tryz.prog W 81 3 aPr (fun _ => True) :=
  (Rd.struct (ts := [9, 78, 79]) Go.Proofs.Tryz.underlying81 rfl rfl (by kernel_rfl) (by kernel_rfl)
    (.cons (Rd.str Go.Proofs.Tryz.underlying9) (fun _ => ⟨rfl, rfl⟩) (.cons rdVars (fun _ => ⟨rfl, rfl⟩) (.cons rdEvs (fun _ => ⟨rfl, rfl⟩) .nil)))).map (fun (y : ByteArray × List (ByteArray × Int) × List Ev × Unit) => ⟨y.1, y.2.1, y.2.2.1⟩) (fun _ => rfl) (fun _ _ => trivial)
end
end Go.AL
end
section
/- A trace is read: its processes are no more than a slice may have. No condition. -/
namespace Go.AL
open Go Go.RowKit
set_option maxRecDepth 100000
section
variable {H : Type} {enc : TypeId × Value → H} {W : World}
theorem rdPrsL : Rd enc Go.Proofs.Tryz.prog W 22 1 aPrs (fun l => l.length ≤ maxLen) :=
  (Rd.slice Go.Proofs.Tryz.underlying22 (by kernel_rfl : Program.cellsOf Go.Proofs.Tryz.prog 81 = 3) (by decide) rdPr).map id (fun _ => rfl) (fun _ h => h.1)
theorem rdTrL : Rd enc Go.Proofs.Tryz.prog W 24 1 aTr (fun l => l.length ≤ maxLen) :=
  (Rd.struct (ts := [22]) Go.Proofs.Tryz.underlying24 rfl rfl (by kernel_rfl) (by kernel_rfl) (.cons rdPrsL (fun _ => ⟨rfl, rfl⟩) .nil)).map (fun (y : List Pr × Unit) => y.1) (fun _ => rfl) (fun _ h => h.1)
end
end Go.AL
end
