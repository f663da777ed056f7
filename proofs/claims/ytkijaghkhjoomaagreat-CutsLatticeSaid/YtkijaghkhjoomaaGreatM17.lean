/- Texts of this claim's proof: WXg, WRt5. No condition. -/
import Derived.Test.YtkijaghkhjoomaaGreatM16
import Derived.Test.YtkijaghkhjoomaaGreatM10
import Derived.Test.YtkijaghkhjoomaaGreatM11
import Derived.Test.YtkijaghkhjoomaaGreatM12
import Derived.Test.YtkijaghkhjoomaaGreatM13
import Derived.Test.YtkijaghkhjoomaaGreatM14
section
/- The law CutsLattice: the walk. No condition. -/
namespace Go.AL
open Go Go.RowKit
set_option maxRecDepth 4000
abbrev au16 (n : Int) : AV := .v (.int .u16 n)
theorem tmod_nat {x : Int} {n : Nat} (h : 0 ≤ x) : x.tmod (n : Int) = ((x.toNat % n : Nat) : Int) := by
  obtain ⟨k, rfl⟩ := Int.eq_ofNat_of_zero_le h
  rfl
set_option maxHeartbeats 4000000 in
theorem lattice_walk {ps : List Pr} (hl : ps.length ≤ 9223372036854775807) (hf : fewF ps = true) (hs : Sm ps) (hv : validF ps = true) (x y : Int) (hx : 0 ≤ x ∧ x ≤ 65535) (hy : 0 ≤ y ∧ y ≤ 65535) : PC Go.Proofs.Tryz.prog 4 [aTr ps, au16 x, au16 y] (ab true) := by
  have haw := law23_awake
  have hfew := law23_few ps hl
  have hV := ref12_Valid ps hs
  have hL := cuts_List ps hs
  have hR : ∀ x : List (List Int), aRows x = .sl 1 (x.map aInts) := fun _ => rfl
  obtain ⟨hl1, hl8⟩ := valid_len hv
  rw [hf] at hfew
  rw [hv] at hV
  unfold aLst at hL
  have hE1 : lstE ps = 0 ∨ lstE ps = 16 := by unfold lstE; rw [hv, if_pos rfl]; split <;> simp
  rcases hE1 with e1 | e1
  · have e2 : lstF ps = cutsF ps := by unfold lstF; rw [e1, if_pos rfl]
    have h5 := (lst_zero.1 e1).2
    have hne : 0 < (cutsF ps).length := List.length_pos_iff.2 fun h => by
      have := (mem_cutsF hv).2 (isF_zero (ps := ps))
      rw [h] at this; cases this
    have hwx : IntKind.i64.wrap x = x := IntWalk.i64_in x (by omega)
    have hwy : IntKind.i64.wrap y = y := IntWalk.i64_in y (by omega)
    have htx := tmod_nat (x := x) (n := (cutsF ps).length) hx.1
    have hty := tmod_nat (x := y) (n := (cutsF ps).length) hy.1
    have hi := Nat.mod_lt x.toNat hne
    have hj := Nat.mod_lt y.toNat hne
    generalize x.toNat % (cutsF ps).length = i at *
    generalize y.toNat % (cutsF ps).length = j at *
    have hD := lat_of hv rfl hi hj
    have hga := getD_map (f := aInts) hi
    have hgb := getD_map (f := aInts) hj
    have hJ := cut_Join ps hs (cutsF ps)[i] (cutsF ps)[j]
    have hM := cut_Meet ps hs (cutsF ps)[i] (cutsF ps)[j]
    have hgg : givenF ps [(cutsF ps)[i], (cutsF ps)[j]] [] = 0 := given1 ((isF_given hv).2 hD.is.1) ((isF_given hv).2 hD.is.2.1)
    have hJe : aComb ps (cutsF ps)[i] (cutsF ps)[j] (fun x y => if x < y then y else x) = .tup [aInts (joinL (cutsF ps)[i] (cutsF ps)[j]), ai 0] := by unfold aComb; rw [if_neg (by simpa using hgg)]; rfl
    have hMe : aComb ps (cutsF ps)[i] (cutsF ps)[j] (fun x y => if y < x then y else x) = .tup [aInts (meetL (cutsF ps)[i] (cutsF ps)[j]), ai 0] := by unfold aComb; rw [if_neg (by simpa using hgg)]; rfl
    rw [hJe] at hJ
    rw [hMe] at hM
    clear hJe hMe hgg
    generalize joinL (cutsF ps)[i] (cutsF ps)[j] = u at *
    generalize meetL (cutsF ps)[i] (cutsF ps)[j] = d at *
    generalize (cutsF ps)[i] = a at *
    generalize (cutsF ps)[j] = b at *
    obtain ⟨⟨ia, ib, iu, id⟩, hbef, fa, ⟨m, fu, mu1, mu2⟩, ⟨k, fd, md1, md2⟩, hbt, ⟨s0, s1⟩, hlev, hzero, hlow⟩ := hD
    have lnc : ∀ {c}, isF ps c = true → c.length ≤ 1000000 := fun {c} h => by have := (isF_iff.1 h).1; omega
    have hFe : ∀ l, (∀ c ∈ l, isF ps c = true) → fndE ps l = 0 := fun l h => fnd_zero.2 ⟨h, e1⟩
    have hFa := cuts_Find ps hs a
    have hFu := cuts_Find ps hs u
    have hFd := cuts_Find ps hs d
    have hB := cuts_Between ps hs d u
    have g1 := hFe [a] (by simpa using ia)
    have g2 := hFe [u] (by simpa using iu)
    have g3 := hFe [d] (by simpa using id)
    have g4 := hFe [d, u] (by simpa using ⟨id, iu⟩)
    unfold fndI at hFa hFu hFd
    unfold btwF at hB
    rw [g1, if_pos rfl, fa] at hFa
    rw [g2, if_pos rfl, fu] at hFu
    rw [g3, if_pos rfl, fd] at hFd
    rw [g4, if_pos rfl] at hB
    have hIa := ref23_Is ps hs hl1 a
    have hIb := ref23_Is ps hs hl1 b
    rw [ia] at hIa
    rw [ib] at hIb
    have hBe := ref23_Before a b (isF_cb hs ia) (isF_cb hs ib) (by have := (isF_iff.1 ia).1; have := (isF_iff.1 ib).1; omega)
    have hbd : (decide ((i : Int) < j) && !befF a b) = false := by
      by_cases h : i < j
      · rw [hbef h]; simp
      · have : ¬ (i : Int) < j := by omega
        simp [this]
    have hbl := List.length_filter_le (fun c => leqF d c && leqF c u) (cutsF ps)
    have hla := fun c (h : isF ps c = true) => law23_lat1 c ((cutsF ps).filter fun c => leqF d c && leqF c u) (lnc h) (by omega)
    have hha : ∀ c, c = a ∨ c = b ∨ c = u ∨ c = d → (((cutsF ps).filter fun c => leqF d c && leqF c u).any fun d => decide (c = d)) = true := fun c h => List.any_eq_true.2 ⟨c, hbt c h, decide_eq_true rfl⟩
    have la := hla a ia
    have lb := hla b ib
    have lu := hla u iu
    have ld := hla d id
    rw [hha a (by simp)] at la
    rw [hha b (by simp)] at lb
    rw [hha u (by simp)] at lu
    rw [hha d (by simp)] at ld
    have hbn : ((cutsF ps).filter fun c => leqF d c && leqF c u) ≠ [] := fun h => by have := hbt a (by simp); rw [h] at this; cases this
    have hbz : ¬ ((((cutsF ps).filter fun c => leqF d c && leqF c u).length : Int) = 0) := fun h => hbn (List.eq_nil_of_length_eq_zero (by omega))
    have hSz := ref23_Size a (isF_cb hs ia)
    have hLv := cuts_Level ps hs a.sum
    have hLw := cuts_Level ps hs (a.sum - 1)
    unfold aLevel at hLv hLw
    rw [hv, if_pos rfl, if_neg (by omega), if_pos e1] at hLv
    have hlvl : ∀ n, (levF ps n).length ≤ 1000000 := fun n => by
      rcases Nat.lt_or_ge (off ps ps.length) n with h | h
      · rw [levF_end hv h]; exact Nat.zero_le _
      · rw [← lvl_cuts hv h]
        have := List.length_filter_le (fun c => decide (c.sum = (n : Int))) (cutsF ps)
        unfold lvlF; omega
    have hC2 := rows_containsFunc (levF ps a.sum.toNat) (hlvl _) (.clo 31 [.rp 1 [aInts a] 0 0]) rfl (fun c => decide (c = a)) fun c hc => (law23_lat2 c a (lnc ((mem_levF hv _ c).1 hc).1)).clo
    have hc2 : ((levF ps a.sum.toNat).any fun c => decide (c = a)) = true := List.any_eq_true.2 ⟨a, hlev, decide_eq_true rfl⟩
    rw [hc2] at hC2
    have hC3 := fun n => rows_containsFunc (levF ps n) (hlvl _) (.clo 32 [.rp 1 [aInts a] 0 0]) rfl (fun c => leqF c a) fun c hc => (law23_lat3 c a (lnc ((mem_levF hv _ c).1 hc).1)).clo
    rw [e1, e2] at hL
    clear hla hha hbt hc2 hlvl lnc hFe hbn hlev hbl
    generalize ((cutsF ps).filter fun c => leqF d c && leqF c u) = btw at *
    have va : PV Go.Proofs.Tryz.prog (.clo 26 [.rp 1 [aRows btw] 0 0]) [aInts a] (ab true) := la.clo
    have vb : PV Go.Proofs.Tryz.prog (.clo 26 [.rp 1 [aRows btw] 0 0]) [aInts b] (ab true) := lb.clo
    have vu : PV Go.Proofs.Tryz.prog (.clo 26 [.rp 1 [aRows btw] 0 0]) [aInts u] (ab true) := lu.clo
    have vd : PV Go.Proofs.Tryz.prog (.clo 26 [.rp 1 [aRows btw] 0 0]) [aInts d] (ab true) := ld.clo
    clear la lb lu ld
    generalize levF ps a.sum.toNat = lv at *
    have hnz : ¬ (((cutsF ps).length : Int) = 0) := by omega
    generalize cutsF ps = A at *
    refine PC.enter 244 [.tmp 6] [3, 11, 23] Go.Proofs.Tryz.func4 rfl rfl rfl rfl rfl (by simp) (AWp.of ?_); simp only [go_sem]
    repeat (first | ((with_reducible refine AWp.ofC ?_ ?_); (focus exact rfl); simp only [go_sem]) | ((with_reducible refine an ?_ ?_); focus exact Au))
    repeat ((with_reducible refine an ?_ ?_); focus exact As)
    refine (haw).val.use ?_; simp only [go_sem]
    repeat (first | ((with_reducible refine AWp.ofC ?_ ?_); (focus exact rfl); simp only [go_sem]) | ((with_reducible refine an ?_ ?_); focus exact Au))
    repeat ((with_reducible refine an ?_ ?_); focus exact As)
    refine (hfew).val.use ?_; simp only [go_sem]
    repeat (first | ((with_reducible refine AWp.ofC ?_ ?_); (focus exact rfl); simp only [go_sem]) | ((with_reducible refine an ?_ ?_); focus exact Au))
    repeat ((with_reducible refine an ?_ ?_); focus exact As)
    refine GCall.use (ab true) (fun _ => ⟨At, (hV).val.use ⟨rfl, rfl⟩⟩) ?_; simp only [go_sem]
    repeat (first | ((with_reducible refine AWp.ofC ?_ ?_); (focus exact rfl); simp only [go_sem]) | ((with_reducible refine an ?_ ?_); focus exact Au))
    repeat ((with_reducible refine an ?_ ?_); focus exact As)
    refine (hL).val.use ?_; simp only [go_sem]
    repeat (first | ((with_reducible refine AWp.ofC ?_ ?_); (focus exact rfl); simp only [go_sem, Int.reduceEq, hnz]) | ((with_reducible refine an ?_ ?_); focus exact Au))
    refine AWp.seq ?_
    refine AWp.read mixed [0, 1, 2, 3, 4, 5, 6, 7, 8, 9, 10, 11] (by kernel_rfl) ?_; simp only [go_sem, hwx, hwy, htx, hty]
    repeat ((with_reducible refine an ?_ ?_); focus exact As)
    refine AWp.seq ?_
    refine AWp.mix mixed [0, 1, 2, 3, 4, 5, 6, 7, 10] (.step 8 (.step 9 .done .done) .done) (by kernel_rfl) ?_; simp only [go_sem, hga, hgb]
    repeat ((with_reducible refine an ?_ ?_); focus exact As)
    intro b11
    refine AWp.only [3, 9, 10, 11, 12] ?_
    simp only [go_sem]
    repeat (first | ((with_reducible refine AWp.ofC ?_ ?_); (focus exact rfl); simp only [go_sem]) | ((with_reducible refine an ?_ ?_); focus exact Au))
    repeat ((with_reducible refine an ?_ ?_); focus exact As)
    refine (hIa).val.use ?_; simp only [go_sem]
    repeat (first | ((with_reducible refine AWp.ofC ?_ ?_); (focus exact rfl); simp only [go_sem]) | ((with_reducible refine an ?_ ?_); focus exact Au))
    repeat ((with_reducible refine an ?_ ?_); focus exact As)
    refine GCall.use (ab true) (fun _ => ⟨At, (hIb).val.use ⟨rfl, rfl⟩⟩) ?_; simp only [go_sem]
    repeat ((with_reducible refine an ?_ ?_); focus exact As)
    refine GCall.use (ab (befF a b)) (fun _ => ⟨At, (hBe).val.use ⟨rfl, rfl⟩⟩) ?_; simp only [go_sem]
    repeat (first | ((with_reducible refine AWp.ofC ?_ ?_); (focus exact rfl); simp only [go_sem, hbd]) | ((with_reducible refine an ?_ ?_); focus exact Au))
    repeat ((with_reducible refine an ?_ ?_); focus exact As)
    refine (hJ).val.use ?_; simp only [go_sem]
    repeat (first | ((with_reducible refine AWp.ofC ?_ ?_); (focus exact rfl); simp only [go_sem]) | ((with_reducible refine an ?_ ?_); focus exact Au))
    repeat ((with_reducible refine an ?_ ?_); focus exact As)
    refine (hM).val.use ?_; simp only [go_sem]
    repeat (first | ((with_reducible refine AWp.ofC ?_ ?_); (focus exact rfl); simp only [go_sem]) | ((with_reducible refine an ?_ ?_); focus exact Au))
    repeat ((with_reducible refine an ?_ ?_); focus exact As)
    refine (hFa).val.use ?_; simp only [go_sem]
    repeat (first | ((with_reducible refine AWp.ofC ?_ ?_); (focus exact rfl); simp only [go_sem]) | ((with_reducible refine an ?_ ?_); focus exact Au))
    repeat ((with_reducible refine an ?_ ?_); focus exact As)
    refine (hFu).val.use ?_; simp only [go_sem]
    repeat (first | ((with_reducible refine AWp.ofC ?_ ?_); (focus exact rfl); simp only [go_sem]) | ((with_reducible refine an ?_ ?_); focus exact Au))
    repeat ((with_reducible refine an ?_ ?_); focus exact As)
    refine (hFd).val.use ?_; simp only [go_sem]
    repeat (first | ((with_reducible refine AWp.ofC ?_ ?_); (focus exact rfl); simp only [go_sem]) | ((with_reducible refine an ?_ ?_); focus exact Au))
    repeat ((with_reducible refine an ?_ ?_); focus exact As)
    refine (hB).val.use ?_; simp only [go_sem]
    repeat (first | ((with_reducible refine AWp.ofC ?_ ?_); (focus exact rfl); simp only [go_sem, hR]) | ((with_reducible refine an ?_ ?_); focus exact Au))
    intro b23
    have hmx : ¬ ((m : Int) < if (i : Int) < j then (j : Int) else i) := by split <;> omega
    have hmn : ¬ ((if (j : Int) < i then (j : Int) else i) < (k : Int)) := by split <;> omega
    repeat (first | ((with_reducible refine AWp.ofC ?_ ?_); (focus exact rfl); simp only [go_sem, hbz, hmx, hmn]) | ((with_reducible refine an ?_ ?_); focus exact Au))
    repeat ((with_reducible refine an ?_ ?_); focus exact As)
    refine (va).use ?_; simp only [go_sem]
    refine GCall.use (ab true) (fun _ => ⟨At, vb.use ⟨rfl, rfl⟩⟩) ?_
    simp only [go_sem]
    repeat ((with_reducible refine an ?_ ?_); focus exact As)
    refine GCall.use (ab true) (fun _ => ⟨At, vu.use ⟨rfl, rfl⟩⟩) ?_
    simp only [go_sem]
    repeat ((with_reducible refine an ?_ ?_); focus exact As)
    refine GCall.use (ab true) (fun _ => ⟨At, vd.use ⟨rfl, rfl⟩⟩) ?_
    simp only [go_sem]
    repeat (first | ((with_reducible refine AWp.ofC ?_ ?_); (focus exact rfl); simp only [go_sem]) | ((with_reducible refine an ?_ ?_); focus exact Au))
    repeat ((with_reducible refine an ?_ ?_); focus exact As)
    refine (hSz).val.use ?_; simp only [go_sem]
    repeat (first | ((with_reducible refine AWp.ofC ?_ ?_); (focus exact rfl); simp only [go_sem]) | ((with_reducible refine an ?_ ?_); focus exact Au))
    repeat ((with_reducible refine an ?_ ?_); focus exact As)
    refine (hLv).val.use ?_; simp only [go_sem]
    repeat (first | ((with_reducible refine AWp.ofC ?_ ?_); (focus exact rfl); simp only [go_sem]) | ((with_reducible refine an ?_ ?_); focus exact Au))
    repeat ((with_reducible refine an ?_ ?_); focus exact As)
    refine GCall.use (ab true) (fun _ => ⟨At, (hC2).val.use ⟨rfl, rfl⟩⟩) ?_; simp only [go_sem]
    by_cases hz : a.sum = 0
    · obtain ⟨z1, z2⟩ := hzero hz
      have z3 : (i : Int) = 0 := by omega
      have z4 : (lv.length : Int) = 1 := by omega
      repeat (first | ((with_reducible refine AWp.ofC ?_ ?_); (focus exact rfl); simp only [go_sem, hz, z3, z4]) | ((with_reducible refine an ?_ ?_); focus exact Au))
      refine ret_eq ?_; simp only [go_sem]
    · have hof := off_small hs ps.length (Nat.le_refl _)
      rw [hv, if_pos rfl, if_neg (by omega), if_pos e1] at hLw
      have hC3 := hC3 (a.sum - 1).toNat
      obtain ⟨w, w1, _, w2⟩ := hlow (by omega)
      rw [List.any_eq_true.2 ⟨w, w1, w2⟩] at hC3
      generalize levF ps (a.sum - 1).toNat = lw at *
      repeat (first | ((with_reducible refine AWp.ofC ?_ ?_); (focus exact rfl); simp only [go_sem, hz]) | ((with_reducible refine an ?_ ?_); focus exact Au))
      repeat ((with_reducible refine an ?_ ?_); focus exact As)
      refine (hLw).val.use ?_; simp only [go_sem]
      repeat (first | ((with_reducible refine AWp.ofC ?_ ?_); (focus exact rfl); simp only [go_sem]) | ((with_reducible refine an ?_ ?_); focus exact Au))
      repeat ((with_reducible refine an ?_ ?_); focus exact As)
      refine GCall.use (ab true) (fun _ => ⟨At, (hC3).val.use ⟨rfl, rfl⟩⟩) ?_; simp only [go_sem]
      repeat (first | ((with_reducible refine AWp.ofC ?_ ?_); (focus exact rfl); simp only [go_sem]) | ((with_reducible refine an ?_ ?_); focus exact Au))
      refine ret_eq ?_; simp only [go_sem]
  · have e2 : lstF ps = [] := by unfold lstF; rw [e1]; rfl
    rw [e1, e2] at hL
    refine PC.enter 244 [.tmp 6] [3, 11, 23] Go.Proofs.Tryz.func4 rfl rfl rfl rfl rfl (by simp) (AWp.of ?_); simp only [go_sem]
    repeat (first | ((with_reducible refine AWp.ofC ?_ ?_); (focus exact rfl); simp only [go_sem]) | ((with_reducible refine an ?_ ?_); focus exact Au))
    repeat ((with_reducible refine an ?_ ?_); focus exact As)
    refine (haw).val.use ?_; simp only [go_sem]
    repeat (first | ((with_reducible refine AWp.ofC ?_ ?_); (focus exact rfl); simp only [go_sem]) | ((with_reducible refine an ?_ ?_); focus exact Au))
    repeat ((with_reducible refine an ?_ ?_); focus exact As)
    refine (hfew).val.use ?_; simp only [go_sem]
    repeat (first | ((with_reducible refine AWp.ofC ?_ ?_); (focus exact rfl); simp only [go_sem]) | ((with_reducible refine an ?_ ?_); focus exact Au))
    repeat ((with_reducible refine an ?_ ?_); focus exact As)
    refine GCall.use (ab true) (fun _ => ⟨At, (hV).val.use ⟨rfl, rfl⟩⟩) ?_; simp only [go_sem]
    repeat (first | ((with_reducible refine AWp.ofC ?_ ?_); (focus exact rfl); simp only [go_sem]) | ((with_reducible refine an ?_ ?_); focus exact Au))
    repeat ((with_reducible refine an ?_ ?_); focus exact As)
    refine (hL).val.use ?_; simp only [go_sem]
    repeat (first | ((with_reducible refine AWp.ofC ?_ ?_); (focus exact rfl); simp only [go_sem, Int.reduceEq]) | ((with_reducible refine an ?_ ?_); focus exact Au))
    refine ret_eq ?_; simp only [go_sem]
    rfl
theorem law23_CutsLattice (ps : List Pr) (x y : Int) (hl : ps.length ≤ 9223372036854775807) (hx : 0 ≤ x ∧ x ≤ 65535) (hy : 0 ≤ y ∧ y ≤ 65535) : PC Go.Proofs.Tryz.prog 4 [aTr ps, au16 x, au16 y] (ab true) := by
  have haw := law23_awake
  have hfew := law23_few ps hl
  cases hf : fewF ps with
  | false =>
    rw [hf] at hfew
    refine PC.enter 244 [.tmp 6] [3, 11, 23] Go.Proofs.Tryz.func4 rfl rfl rfl rfl rfl (by simp) (AWp.of ?_); simp only [go_sem]
    repeat (first | ((with_reducible refine AWp.ofC ?_ ?_); (focus exact rfl); simp only [go_sem]) | ((with_reducible refine an ?_ ?_); focus exact Au))
    repeat ((with_reducible refine an ?_ ?_); focus exact As)
    refine (haw).val.use ?_; simp only [go_sem]
    repeat (first | ((with_reducible refine AWp.ofC ?_ ?_); (focus exact rfl); simp only [go_sem]) | ((with_reducible refine an ?_ ?_); focus exact Au))
    repeat ((with_reducible refine an ?_ ?_); focus exact As)
    refine (hfew).val.use ?_; simp only [go_sem]
    refine GCall.use (ab false) (fun g => by simp at g) ?_
    simp only [go_sem]
    repeat (first | ((with_reducible refine AWp.ofC ?_ ?_); (focus exact rfl); simp only [go_sem]) | ((with_reducible refine an ?_ ?_); focus exact Au))
    refine ret_eq ?_; simp only [go_sem]
  | true =>
    have hs := fewF_sm hf
    cases hv : validF ps with
    | true => exact lattice_walk hl hf hs hv x y hx hy
    | false =>
      have hV := ref12_Valid ps hs
      rw [hf] at hfew
      rw [hv] at hV
      refine PC.enter 244 [.tmp 6] [3, 11, 23] Go.Proofs.Tryz.func4 rfl rfl rfl rfl rfl (by simp) (AWp.of ?_); simp only [go_sem]
      repeat (first | ((with_reducible refine AWp.ofC ?_ ?_); (focus exact rfl); simp only [go_sem]) | ((with_reducible refine an ?_ ?_); focus exact Au))
      repeat ((with_reducible refine an ?_ ?_); focus exact As)
      refine (haw).val.use ?_; simp only [go_sem]
      repeat (first | ((with_reducible refine AWp.ofC ?_ ?_); (focus exact rfl); simp only [go_sem]) | ((with_reducible refine an ?_ ?_); focus exact Au))
      repeat ((with_reducible refine an ?_ ?_); focus exact As)
      refine (hfew).val.use ?_; simp only [go_sem]
      repeat (first | ((with_reducible refine AWp.ofC ?_ ?_); (focus exact rfl); simp only [go_sem]) | ((with_reducible refine an ?_ ?_); focus exact Au))
      repeat ((with_reducible refine an ?_ ?_); focus exact As)
      refine GCall.use (ab false) (fun _ => ⟨At, (hV).val.use ⟨rfl, rfl⟩⟩) ?_; simp only [go_sem]
      repeat (first | ((with_reducible refine AWp.ofC ?_ ?_); (focus exact rfl); simp only [go_sem]) | ((with_reducible refine an ?_ ?_); focus exact Au))
      refine ret_eq ?_; simp only [go_sem]
end Go.AL
end
section
/- A number of 16 bits is read. No condition. -/
namespace Go.AL
open Go Go.RowKit
set_option maxRecDepth 100000
section
variable {H : Type} {enc : TypeId × Value → H} {W : World}
theorem Rd.u16 {P : Program} {t : TypeId} (ht : P.underlying t = some (.int .u16)) : Rd enc P W t 1 (fun n : Int => .v (.int .u16 n)) (fun n => 0 ≤ n ∧ n ≤ 65535) := by
  intro fuel cs x h
  obtain ⟨n, rfl, _, hw⟩ := DataW.trod_int ht h
  have hb : IntKind.u16.min ≤ n ∧ n ≤ IntKind.u16.max := by
    unfold Lit.wf at hw
    rwa [Bool.and_eq_true, decide_eq_true_eq, decide_eq_true_eq] at hw
  refine ⟨n, ⟨Int.le_trans (by decide) hb.1, Int.le_trans hb.2 (by decide)⟩, ⟨rfl, rfl⟩, rfl, fun i c u h1 h2 => ?_⟩
  cases i with
  | zero => cases h1; cases h2; exact .v _
  | succ i => cases h2
theorem rdU16 : Rd enc Go.Proofs.Tryz.prog W 42 1 (fun n : Int => .v (.int .u16 n)) (fun n => 0 ≤ n ∧ n ≤ 65535) := Rd.u16 Go.Proofs.Tryz.underlying42
end
end Go.AL
end
