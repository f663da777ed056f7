/- The package vector: stamps. No condition. -/
import Derived.Test.YtkfkdmefabefkaaWVec
namespace Go.AL
open Go Go.RowKit
set_option maxRecDepth 4000
/-- How the stamps so far lie in the memory: a row of rows in bo, what was sent in bs. -/
def VSt (n bo bs : Nat) (S : Nat → List (List Int)) (T : Int → AV) (L : AHeap) : Prop :=
  ∃ (V : Nat → AV) (Ls : Nat → AHeap) (SV : List AV), L.Perm ((bs, .row 25 1 SV 200) :: (bo, .row 22 1 ((List.range n).map V) n) :: famL n Ls) ∧
    (∀ p, p < n → AppSt 25 1 ((S p).map aInts) (V p) (Ls p)) ∧ SV.length = 200 ∧ ∀ m : Int, 0 ≤ m → m ≤ 199 → SV.getD m.toNat .any = T m
theorem VSt.perm {n bo bs : Nat} {S : Nat → List (List Int)} {T : Int → AV} {L L' : AHeap} (hp : L'.Perm L) (h : VSt n bo bs S T L) : VSt n bo bs S T L' :=
  let ⟨V, Ls, SV, h1, h2⟩ := h
  ⟨V, Ls, SV, hp.trans h1, h2⟩
theorem VSt.open {n bo bs : Nat} {S : Nat → List (List Int)} {T : Int → AV} {L : AHeap} (h : VSt n bo bs S T L) {p : Nat} (hp : p < n) :
    ∃ (V : Nat → AV) (Ls : Nat → AHeap) (SV : List AV), L.Perm ((bs, .row 25 1 SV 200) :: (bo, .row 22 1 ((List.range n).map V) n) :: (Ls p ++ famR n p Ls)) ∧
      AppSt 25 1 ((S p).map aInts) (V p) (Ls p) ∧ SV.length = 200 ∧ (∀ m : Int, 0 ≤ m → m ≤ 199 → SV.getD m.toNat .any = T m) ∧
      ∀ (S' : Nat → List (List Int)) (T' : Int → AV) (x : AV) (Lp : AHeap) (SV' : List AV) (L' : AHeap), (∀ q, q ≠ p → S' q = S q) → AppSt 25 1 ((S' p).map aInts) x Lp → SV'.length = 200 → (∀ m : Int, 0 ≤ m → m ≤ 199 → SV'.getD m.toNat .any = T' m) →
        L'.Perm ((bs, .row 25 1 SV' 200) :: (bo, .row 22 1 (((List.range n).map V).set p x) n) :: (Lp ++ famR n p Ls)) → VSt n bo bs S' T' L' := by
  obtain ⟨V, Ls, SV, h1, h2, h3, h4⟩ := h
  refine ⟨V, Ls, SV, h1.trans (((fam_split hp Ls).cons _).cons _), h2 p hp, h3, h4, fun S' T' x Lp SV' L' hS hA hl hT hL => ?_⟩
  refine ⟨fun q => if q = p then x else V q, fun q => if q = p then Lp else Ls q, SV', ?_, fun q hq => ?_, hl, hT⟩
  · refine hL.trans ?_
    rw [map_range_set]
    refine (List.Perm.cons _ (List.Perm.cons _ ?_))
    have hsp := fam_split hp (fun q => if q = p then Lp else Ls q)
    rw [if_pos rfl, famR_congr (Ls := Ls) (fun q hq => if_neg hq)] at hsp
    exact hsp.symm
  · by_cases e : q = p
    · subst e; dsimp only; rw [if_pos rfl, if_pos rfl]; exact hA
    · dsimp only; rw [if_neg e, if_neg e, hS q e]; exact h2 q hq
theorem nd2 {b c : Nat} {x y : ABlk} {r : AHeap} (h : ((((b, x) :: (c, y) :: r : AHeap)).map (·.1)).Nodup) : ¬ b = c ∧ ¬ c = b ∧ ∀ z ∈ r, (¬ b = z.1 ∧ ¬ z.1 = b) ∧ ¬ c = z.1 ∧ ¬ z.1 = c := by
  simp only [List.map_cons, List.nodup_cons, List.mem_cons, not_or, List.mem_map, not_exists, not_and] at h
  obtain ⟨⟨h1, h2⟩, h3, _⟩ := h
  exact ⟨h1, fun e => h1 e.symm, fun z hz => ⟨⟨fun e => h2 z hz e.symm, h2 z hz⟩, fun e => h3 z hz e.symm, h3 z hz⟩⟩
theorem nd3 {b c d : Nat} {x y z : ABlk} {r : AHeap} (h : ((((b, x) :: (c, y) :: (d, z) :: r : AHeap)).map (·.1)).Nodup) : (¬ b = c ∧ ¬ c = b) ∧ (¬ b = d ∧ ¬ d = b) ∧ (¬ c = d ∧ ¬ d = c) ∧ ∀ w ∈ r, (¬ b = w.1 ∧ ¬ w.1 = b) ∧ (¬ c = w.1 ∧ ¬ w.1 = c) ∧ ¬ d = w.1 ∧ ¬ w.1 = d := by
  obtain ⟨h1, h2, h3⟩ := nd2 h
  rw [List.map_cons, List.nodup_cons] at h
  obtain ⟨h4, h5, h6⟩ := nd2 h.2
  exact ⟨⟨h1, h2⟩, (h3 (d, z) List.mem_cons_self).1, ⟨h4, h5⟩, fun w hw => ⟨(h3 w (List.mem_cons_of_mem _ hw)).1, (h6 w hw).1, (h6 w hw).2⟩⟩
theorem getD_setA (xs : List AV) (i j : Nat) (x : AV) : (xs.set i x).getD j .any = if i = j ∧ i < xs.length then x else xs.getD j .any := by
  rw [List.getD_eq_getElem?_getD, List.getElem?_set]
  by_cases h : i = j
  · subst h
    by_cases h2 : i < xs.length
    · simp [h2]
    · simp [h2]
  · simp [h, List.getD_eq_getElem?_getD]
set_option maxHeartbeats 8000000 in
theorem vector_stamps (ps : List Pr) (hs : Sm ps) (hv : validF ps = true) : PC Go.Proofs.Try.prog 46 [aTr ps] (aRows3 ((List.range ps.length).map (stampF ps))) := by
  obtain ⟨hl1, hl8⟩ := valid_len hv
  have hfm := valid_formed hv
  refine PC.enter 107 [.tmp 2] [1, 7, 8, 102] Go.Proofs.Try.func46 rfl rfl rfl rfl rfl (by simp) (AWp.of ?_); simp only [go_sem]
  repeat ((with_reducible refine And.intro ?_ ?_); focus first | exact True.intro | omega | (intros; (with_reducible and_intros) <;> first | (with_reducible assumption) | omega; done) | (simp; done) | (simp; omega))
  refine AWp.of ?_; simp only [go_sem]
  repeat ((with_reducible refine And.intro ?_ ?_); focus first | exact True.intro | omega | (intros; (with_reducible and_intros) <;> first | (with_reducible assumption) | omega; done) | (simp; done) | (simp; omega))
  intro bo
  repeat ((with_reducible refine And.intro ?_ ?_); focus first | exact True.intro | omega | (intros; (with_reducible and_intros) <;> first | (with_reducible assumption) | omega; done) | (simp; done) | (simp; omega))
  refine AWp.of ?_; simp only [go_sem]
  repeat ((with_reducible refine And.intro ?_ ?_); focus first | exact True.intro | omega | (intros; (with_reducible and_intros) <;> first | (with_reducible assumption) | omega; done) | (simp; done) | (simp; omega))
  intro bs hbs
  repeat (first | ((with_reducible refine AWp.ofC ?_ ?_); (focus exact rfl); simp only [go_sem]) | ((with_reducible refine And.intro ?_ ?_); focus first | exact True.intro | omega | (intros; (with_reducible and_intros) <;> first | (with_reducible assumption) | omega; done)))
  have hL0 : VSt ps.length bo bs (fun _ => []) (sentA ps fun _ => []) [(bs, .row 25 1 (List.replicate 200 anil) 200), (bo, .row 22 1 (List.replicate ps.length anil) ps.length)] := by
    refine ⟨fun _ => anil, fun _ => [], List.replicate 200 anil, ?_, fun p _ => .nil, by simp, fun m h1 h2 => ?_⟩
    · rw [fam_nil, List.map_const', List.length_range]
    · rw [sentA_init, List.getD_eq_getElem?_getD, List.getElem?_replicate, if_pos (by omega)]; rfl
  have hB : ∀ S, Gen ps S → totS ps.length (lenS S) ≤ ps.length * 1000000 := fun S h => totS_le _ fun q hq => by
    have h1 := h.le_nev q
    rw [nev_get hq] at h1
    have h2 := hs.evs _ (List.getElem_mem hq)
    unfold lenS; omega
  refine AWp.block (AWp.loopN [5] [1, 3, 4] (fun m vs L => ∃ S g, vs = [ab g] ∧ VSt ps.length bo bs S (sentA ps S) L ∧ Gen ps S ∧ (g = false → ∀ p, ¬ Rdy ps (lenS S) p) ∧ m = 2 * (ps.length * 1000000 - totS ps.length (lenS S)) + (if g = true then 1 else 0))
    _ ⟨_, true, rfl, hL0, .init, fun h => (by cases h), rfl⟩ ?_)
  rintro m vs L' - ⟨S0, g0, rfl, hV0, hG0, hno0, hm⟩
  simp only [go_sem]
  repeat (first | ((with_reducible refine AWp.ofC ?_ ?_); (focus exact rfl); simp only [go_sem]) | ((with_reducible refine And.intro ?_ ?_); focus first | exact True.intro | omega | (intros; (with_reducible and_intros) <;> first | (with_reducible assumption) | omega; done)))
  refine ⟨fun h1 => ?_, fun h1 => ?_⟩
  · repeat (first | ((with_reducible refine AWp.ofC ?_ ?_); (focus exact rfl); simp only [go_sem]) | ((with_reducible refine And.intro ?_ ?_); focus first | exact True.intro | omega | (intros; (with_reducible and_intros) <;> first | (with_reducible assumption) | omega; done)))
    refine AWp.range' ps.length [5] [1, 3, 4, 18, 19] (fun p vs L => ∃ S g, vs = [ab g] ∧ VSt ps.length bo bs S (sentA ps S) L ∧ Gen ps S ∧ (g = false → S = S0 ∧ ∀ q, q < p → ¬ Rdy ps (lenS S) q) ∧ (g = true → totS ps.length (lenS S0) < totS ps.length (lenS S)))
      (by omega) rfl rfl rfl ⟨S0, false, rfl, hV0, hG0, fun _ => ⟨rfl, fun q hq => by omega⟩, fun h => by cases h⟩ ?_ ?_
    · rintro p vs L' hp - ⟨S1, g1, rfl, hV1, hG1, hf1, ht1⟩
      have hm := List.getElem_mem hp
      have hel := hs.evs _ hm
      simp only [go_sem]
      repeat ((with_reducible refine And.intro ?_ ?_); focus first | exact True.intro | omega | (intros; (with_reducible and_intros) <;> first | (with_reducible assumption) | omega; done) | (simp; done) | (simp; omega))
      refine AWp.of ?_; simp only [go_sem, getD_map hp]
      repeat ((with_reducible refine And.intro ?_ ?_); focus first | exact True.intro | omega | (intros; (with_reducible and_intros) <;> first | (with_reducible assumption) | omega; done) | (simp; done) | (simp; omega))
      intros
      refine AWp.of ?_; simp only [go_sem]
      refine AWp.loopN [5] [1, 3, 4, 6, 7, 18, 19, 20] (fun m vs L => ∃ S g, vs = [ab g] ∧ VSt ps.length bo bs S (sentA ps S) L ∧ Gen ps S ∧ (g = false → S = S0 ∧ ∀ q, q < p → ¬ Rdy ps (lenS S) q) ∧ (g = true → totS ps.length (lenS S0) < totS ps.length (lenS S)) ∧ m = 1000000 - (S p).length)
        (1000000 - (S1 p).length) ?_ ?_
      · exact ⟨S1, g1, rfl, hV1, hG1, hf1, ht1, rfl⟩
      rintro m' vs L' - ⟨S, g, rfl, hV, hG, hf, ht, hm'⟩
      have hle := hG.le_nev p
      rw [nev_get hp] at hle
      simp only [go_sem]
      refine AWp.seq ?_
      refine AWp.cut [1, 3, 4, 5, 6, 7, 18, 19, 20, 33] (fun vs L => VSt ps.length bo bs S (sentA ps S) L ∧ vs = [.rp 1 [aTr ps] 0 0, .ls bo 1 0 ps.length ps.length, .ls bs 1 0 200 200, ab g, ai p, .rp 3 [aPr ps[p]] 0 0, .sl 3 (ps.map aPr), ai ps.length, ai p, ab (decide (((S p).length : Int) < ps[p].evs.length))]) ?_ ?_
      · obtain ⟨V, Ls, SV, hP, hA, hSl, hT, _⟩ := hV.open hp
        refine AWp.perm hP (AWp.nodup fun hnd => ?_)
        have hVN := hV.perm hP.symm
        obtain ⟨n1, n2, n3⟩ := nd2 hnd
        rcases hA.inv with ⟨e1, e2, e3⟩ | ⟨b, cap, e2, e3⟩
        · have hgd : ((List.range ps.length).map V).getD p .any = anil := by rw [map_range_getD hp, e2]
          have e4 : (S p).length = 0 := by simpa using congrArg List.length e1
          rw [e3] at hVN ⊢
          refine AWp.mix mixed [0, 1, 2, 5, 6, 7] (.step 3 (.step 4 (.step 8 .done .done) .done) .done) (by kernel_rfl) ?_; simp only [go_sem, hgd, n1, n2]
          repeat ((with_reducible refine And.intro ?_ ?_); focus first | exact True.intro | omega | (intros; (with_reducible and_intros) <;> first | (with_reducible assumption) | omega; done) | (simp; done) | (simp; omega))
          exact ⟨_, List.Sublist.refl _, hVN, by rw [e4]; rfl⟩
        · have hgd : ((List.range ps.length).map V).getD p .any = .ls b 1 0 (S p).length cap := by rw [map_range_getD hp, e2, List.length_map]
          rw [e3] at hVN n3 ⊢
          obtain ⟨⟨n4, n5⟩, n6, n7⟩ := n3 (b, _) (List.mem_append_left _ (List.mem_singleton_self _))
          refine AWp.mix mixed [0, 1, 2, 5, 6, 7] (.step 3 (.step 4 (.step 8 .done .done) .done) .done) (by kernel_rfl) ?_; simp only [go_sem, hgd, n1, n2, n4, n5, n6, n7]
          repeat ((with_reducible refine And.intro ?_ ?_); focus first | exact True.intro | omega | (intros; (with_reducible and_intros) <;> first | (with_reducible assumption) | omega; done) | (simp; done) | (simp; omega))
          exact ⟨_, List.Sublist.refl _, hVN, rfl⟩
      · rintro vs L2 - ⟨hV, rfl⟩
        simp only [go_sem]
        repeat (first | ((with_reducible refine AWp.ofC ?_ ?_); (focus exact rfl); simp only [go_sem]) | ((with_reducible refine And.intro ?_ ?_); focus first | exact True.intro | omega | (intros; (with_reducible and_intros) <;> first | (with_reducible assumption) | omega; done)))
        refine ⟨fun h2 => ?_, fun h2 => ?_⟩
        · have hk : (S p).length < ps[p].evs.length := by omega
          have hfe := hfm p hp _ (List.getElem_mem hk)
          have heq := evq_get hp hk
          refine AWp.block ?_
          refine AWp.cut [1, 3, 4, 5, 6, 7, 8, 18, 19, 20] (fun vs L => VSt ps.length bo bs S (sentA ps S) L ∧ vs = [.rp 1 [aTr ps] 0 0, .ls bo 1 0 ps.length ps.length, .ls bs 1 0 200 200, ab g, ai p, .rp 3 [aPr ps[p]] 0 0, .rp 5 [aEv ps[p].evs[(S p).length]] 0 0, .sl 3 (ps.map aPr), ai ps.length, ai p]) ?_ ?_
          · obtain ⟨V, Ls, SV, hP, hA, hSl, hT, _⟩ := hV.open hp
            refine AWp.perm hP (AWp.nodup fun hnd => ?_)
            have hVN := hV.perm hP.symm
            obtain ⟨n1, n2, n3⟩ := nd2 hnd
            rcases hA.inv with ⟨e1, e2, e3⟩ | ⟨b, cap, e2, e3⟩
            · have hgd : ((List.range ps.length).map V).getD p .any = anil := by rw [map_range_getD hp, e2]
              have e4 : (S p).length = 0 := by simpa using congrArg List.length e1
              have hk0 : 0 < ps[p].evs.length := by omega
              rw [e3] at hVN ⊢
              refine AWp.mix mixed [0, 1, 2, 3, 4] (.step 5 (.step 6 (.step 7 (.step 8 (.step 9 (.step 10 .done .done) .done) (.step 9 (.step 8 (.step 10 .done .done) .done) .done)) (.step 9 (.step 7 (.step 8 (.step 10 .done .done) .done) .done) .done)) (.step 9 (.step 6 (.step 7 (.step 8 (.step 10 .done .done) .done) .done) .done) .done)) (.step 9 (.step 5 (.step 6 (.step 7 (.step 8 (.step 10 .done .done) .done) .done) .done) .done) .done)) (by kernel_rfl) ?_; simp only [go_sem, hgd, n1, n2, getD_map hk0]
              repeat' (first | (with_reducible refine And.intro ?_ ?_) | intro _)
              all_goals first | omega | exact ⟨_, List.Sublist.refl _, hVN, by simp only [e4]⟩ | (simp; done) | (simp; omega) | (rename_i bN k1 k2 k3; have nb : ¬ bo = bN := (by omega); simp only [go_sem, nb, hgd, getD_map hk0])
              all_goals repeat' (first | (with_reducible refine And.intro ?_ ?_) | intro _)
              all_goals first | omega | exact ⟨_, List.Sublist.refl _, hVN, by simp only [e4]⟩ | (simp; done) | (simp; omega)
            · have hgd : ((List.range ps.length).map V).getD p .any = .ls b 1 0 (S p).length cap := by rw [map_range_getD hp, e2, List.length_map]
              rw [e3] at hVN n3 ⊢
              obtain ⟨⟨n4, n5⟩, n6, n7⟩ := n3 (b, _) (List.mem_append_left _ (List.mem_singleton_self _))
              refine AWp.mix mixed [0, 1, 2, 3, 4] (.step 5 (.step 6 (.step 7 (.step 8 (.step 9 (.step 10 .done .done) .done) (.step 9 (.step 8 (.step 10 .done .done) .done) .done)) (.step 9 (.step 7 (.step 8 (.step 10 .done .done) .done) .done) .done)) (.step 9 (.step 6 (.step 7 (.step 8 (.step 10 .done .done) .done) .done) .done) .done)) (.step 9 (.step 5 (.step 6 (.step 7 (.step 8 (.step 10 .done .done) .done) .done) .done) .done) .done)) (by kernel_rfl) ?_; simp only [go_sem, hgd, n1, n2, n4, n5, n6, n7, getD_map hk]
              repeat' (first | (with_reducible refine And.intro ?_ ?_) | intro _)
              all_goals first | omega | exact ⟨_, List.Sublist.refl _, hVN⟩ | (simp; done) | (simp; omega) | (rename_i bN k1 k2 k3 k4; have nb : ¬ bo = bN := (by omega); simp only [go_sem, nb, hgd, getD_map hk])
              all_goals repeat' (first | (with_reducible refine And.intro ?_ ?_) | intro _)
              all_goals first | omega | exact ⟨_, List.Sublist.refl _, hVN⟩ | (simp; done) | (simp; omega)
          · rintro vs L3 - ⟨hV, rfl⟩
            generalize he : ps[p].evs[(S p).length] = e at *
            simp only [go_sem]
            repeat ((with_reducible refine And.intro ?_ ?_); focus first | exact True.intro | omega | (intros; (with_reducible and_intros) <;> first | (with_reducible assumption) | omega; done) | (simp; done) | (simp; omega))
            refine AWp.of ?_; simp only [go_sem]
            repeat ((with_reducible refine And.intro ?_ ?_); focus first | exact True.intro | omega | (intros; (with_reducible and_intros) <;> first | (with_reducible assumption) | omega; done) | (simp; done) | (simp; omega))
            intro bv hbv
            refine AWp.cut [1, 3, 4, 5, 6, 7, 8, 9, 18, 19, 20] (fun vs L => ∃ L1, L = (bv, .row 3 1 ((preV ps S p (S p).length).map ai) ps.length) :: L1 ∧ VSt ps.length bo bs S (sentA ps S) L1 ∧
              vs = [.rp 1 [aTr ps] 0 0, .ls bo 1 0 ps.length ps.length, .ls bs 1 0 200 200, ab g, ai p, .rp 3 [aPr ps[p]] 0 0, .rp 5 [aEv e] 0 0, .ls bv 1 0 ps.length ps.length, .sl 3 (ps.map aPr), ai ps.length, ai p]) ?_ ?_
            · obtain ⟨V, Ls, SV, hP, hA, hSl, hT, _⟩ := hV.open hp
              refine AWp.perm (hP.cons _) (AWp.nodup fun hnd => ?_)
              have hVN := hV.perm hP.symm
              obtain ⟨⟨m1, m2⟩, ⟨m3, m4⟩, ⟨n1, n2⟩, n3⟩ := nd3 hnd
              rcases hA.inv with ⟨e1, e2, e3⟩ | ⟨b, cap, e2, e3⟩
              · have hgd : ((List.range ps.length).map V).getD p .any = anil := by rw [map_range_getD hp, e2]
                have e4 : (S p).length = 0 := by simpa using congrArg List.length e1
                have e5 : (preV ps S p (S p).length).map ai = List.replicate ps.length (ai 0) := by unfold preV; rw [if_pos e4, List.map_replicate]
                rw [e3] at hVN ⊢
                repeat (first | ((with_reducible refine AWp.ofC ?_ ?_); (focus exact rfl); simp only [go_sem, hgd, m1, m2, m3, m4, n1, n2, List.length_range]) | ((with_reducible refine And.intro ?_ ?_); focus first | exact True.intro | omega | (intros; (with_reducible and_intros) <;> first | (with_reducible assumption) | omega; done)))
                intro _
                rw [e5]
                exact ⟨_, List.Sublist.refl _, _, rfl, hVN⟩
              · have hgd : ((List.range ps.length).map V).getD p .any = .ls b 1 0 (S p).length cap := by rw [map_range_getD hp, e2, List.length_map]
                rw [e3] at hVN n3 ⊢
                obtain ⟨⟨q1, q2⟩, ⟨n4, n5⟩, n6, n7⟩ := n3 (b, _) (List.mem_append_left _ (List.mem_singleton_self _))
                by_cases h0 : (S p).length = 0
                · have e5 : (preV ps S p (S p).length).map ai = List.replicate ps.length (ai 0) := by unfold preV; rw [if_pos h0, List.map_replicate]
                  repeat (first | ((with_reducible refine AWp.ofC ?_ ?_); (focus exact rfl); simp only [go_sem, hgd, m1, m2, m3, m4, n1, n2, n4, n5, n6, n7, q1, q2, List.length_range]) | ((with_reducible refine And.intro ?_ ?_); focus first | exact True.intro | omega | (intros; (with_reducible and_intros) <;> first | (with_reducible assumption) | omega; done)))
                  intro _
                  rw [e5]
                  exact ⟨_, List.Sublist.refl _, _, rfl, hVN⟩
                · have hb1 := hG.bound p ((S p).length - 1) (by omega)
                  have e5 : preV ps S p (S p).length = stOf S p ((S p).length - 1) := by unfold preV; rw [if_neg h0]
                  have hgk : (List.map aInts (S p)).getD (((S p).length : Int) - 1).toNat .any = .sl 1 ((stOf S p ((S p).length - 1)).map ai) := by
                    have e6 : (((S p).length : Int) - 1).toNat = (S p).length - 1 := by omega
                    rw [e6, getD_map (by omega)]
                    simp [aInts, stOf, show (S p).length - 1 < (S p).length by omega]
                  repeat (first | ((with_reducible refine AWp.ofC ?_ ?_); (focus exact rfl); simp only [go_sem, hgd, hgk, m1, m2, m3, m4, n1, n2, n4, n5, n6, n7, q1, q2, List.length_range]) | ((with_reducible refine And.intro ?_ ?_); focus first | exact True.intro | omega | (intros; (with_reducible and_intros) <;> first | (with_reducible assumption) | omega; done)))
                  refine ⟨fun h3 => ?_, fun h3 => ?_⟩
                  · repeat ((with_reducible refine And.intro ?_ ?_); focus first | exact True.intro | omega | (intros; (with_reducible and_intros) <;> first | (with_reducible assumption) | omega; done) | (simp; done) | (simp; omega))
                    rw [e5]
                    generalize stOf S p ((S p).length - 1) = y at *
                    rw [show min y.length ps.length = y.length by omega, List.take_length, List.drop_of_length_le (by simp; omega), List.append_nil]
                    exact ⟨_, List.Sublist.refl _, _, rfl, hVN⟩
                  · exfalso; omega
            · rintro vs L4 - ⟨L1, rfl, hV, rfl⟩
              simp only [go_sem]
              refine AWp.cut [1, 3, 4, 5, 6, 7, 8, 9, 18, 19, 20] (fun vs L => Rdy ps (lenS S) p ∧ ∃ b2 cap L1, L = (b2, .row 3 1 ((rawV ps S p (S p).length).map ai) cap) :: L1 ∧ VSt ps.length bo bs S (sentA ps S) L1 ∧
                vs = [.rp 1 [aTr ps] 0 0, .ls bo 1 0 ps.length ps.length, .ls bs 1 0 200 200, ab g, ai p, .rp 3 [aPr ps[p]] 0 0, .rp 5 [aEv e] 0 0, .ls b2 1 0 ps.length cap, .sl 3 (ps.map aPr), ai ps.length, ai p]) ?_ ?_
              · obtain ⟨V, Ls, SV, hP, hA, hSl, hT, _⟩ := hV.open hp
                refine AWp.perm (hP.cons _) (AWp.nodup fun hnd => ?_)
                have hVN := hV.perm hP.symm
                obtain ⟨⟨m1, m2⟩, ⟨m3, m4⟩, ⟨n1, n2⟩, n3⟩ := nd3 hnd
                have hpl : (preV ps S p (S p).length).length = ps.length := by
                  unfold preV
                  by_cases h0 : (S p).length = 0
                  · rw [if_pos h0]; simp
                  · rw [if_neg h0]; exact (hG.bound p _ (by omega)).1
                by_cases k3 : e.kind = 3
                · obtain ⟨b1, b2, _⟩ := formed_msg hfe (.inr k3)
                  have hsv := hT e.msg b1 b2
                  have hml : e.msg.toNat < SV.length := by omega
                  by_cases hs1 : 0 < (sndr ps e.msg).2 ∧ (sndr ps e.msg).2 ≤ (S (sndr ps e.msg).1.toNat).length
                  · have hrd : Rdy ps (lenS S) p := ⟨hp, by rw [nev_get hp]; exact hk, fun _ => by unfold lenS; rw [heq]; exact hs1⟩
                    have hw := hG.bound (sndr ps e.msg).1.toNat ((sndr ps e.msg).2 - 1).toNat (by omega)
                    have hraw : rawV ps S p (S p).length = joinV (preV ps S p (S p).length) (stOf S (sndr ps e.msg).1.toNat ((sndr ps e.msg).2 - 1).toNat) := by unfold rawV; rw [heq, if_pos k3]
                    rw [hraw]
                    unfold sentA at hsv
                    rw [if_pos hs1] at hsv
                    simp only [aInts] at hsv
                    generalize stOf S (sndr ps e.msg).1.toNat ((sndr ps e.msg).2 - 1).toNat = w at *
                    repeat (first | ((with_reducible refine AWp.ofC ?_ ?_); (focus exact rfl); simp only [go_sem, hsv, hSl, m1, m2, m3, m4, n1, n2]) | ((with_reducible refine And.intro ?_ ?_); focus first | exact True.intro | omega | (intros; (with_reducible and_intros) <;> first | (with_reducible assumption) | omega; done)))
                    refine ⟨fun h3 => ?_, fun h3 => ?_⟩
                    · repeat (first | ((with_reducible refine AWp.ofC ?_ ?_); (focus exact rfl); simp only [go_sem, hsv, hSl, m1, m2, m3, m4, n1, n2]) | ((with_reducible refine And.intro ?_ ?_); focus first | exact True.intro | omega | (intros; (with_reducible and_intros) <;> first | (with_reducible assumption) | omega; done)))
                      intro h4
                      repeat (first | ((with_reducible refine AWp.ofC ?_ ?_); (focus exact rfl); simp only [go_sem, hsv, hSl, m1, m2, m3, m4, n1, n2]) | ((with_reducible refine And.intro ?_ ?_); focus first | exact True.intro | omega | (intros; (with_reducible and_intros) <;> first | (with_reducible assumption) | omega; done)))
                      refine (MCalls.viewed (L := (bv, .row 3 1 ((preV ps S p (S p).length).map ai) ps.length) :: (bs, .row 25 1 SV 200) :: (bo, .row 22 1 ((List.range ps.length).map V) ps.length) :: (Ls p ++ famR ps.length p Ls))
                        (Vws.cons (Vw.ofLs (t := 3) (cap := ps.length) (if_pos rfl) (by rw [List.length_map, hpl])) (Vws.cons (.refl _) .nil)) (vector_joined (preV ps S p (S p).length) w ps.length (by omega) (by omega) hpl hw.1) (fun r L1 h => h.own (own_ints _))).val.mono ?_
                      rintro r L' ⟨L5, rfl, hA5⟩
                      rcases hA5.inv with ⟨e1, _, _⟩ | ⟨b3, cap3, rfl, rfl⟩
                      · have h9 := congrArg List.length e1
                        rw [List.length_map, joinV_length (by rw [hpl, hw.1]), hpl] at h9
                        have h10 : ps.length = 0 := h9
                        omega
                      · simp only [go_sem]
                        rw [joinV_length (by rw [hpl, hw.1]), hpl]
                        exact ⟨_, List.Sublist.cons_cons _ (List.sublist_cons_self _ _), hrd, _, _, _, rfl, hVN, rfl⟩
                    · exact absurd k3 h3
                  · unfold sentA at hsv
                    rw [if_neg hs1] at hsv
                    repeat (first | ((with_reducible refine AWp.ofC ?_ ?_); (focus exact rfl); simp only [go_sem, hsv, hSl, m1, m2, m3, m4, n1, n2]) | ((with_reducible refine And.intro ?_ ?_); focus first | exact True.intro | omega | (intros; (with_reducible and_intros) <;> first | (with_reducible assumption) | omega; done)))
                    refine ⟨fun h3 => ?_, fun h3 => ?_⟩
                    · repeat (first | ((with_reducible refine AWp.ofC ?_ ?_); (focus exact rfl); simp only [go_sem, hsv, hSl, m1, m2, m3, m4, n1, n2]) | ((with_reducible refine And.intro ?_ ?_); focus first | exact True.intro | omega | (intros; (with_reducible and_intros) <;> first | (with_reducible assumption) | omega; done)))
                      refine ⟨fun _ => ⟨rfl, _, List.sublist_cons_self _ _, S, g, rfl, hVN, hG, fun hg => ?_, ht⟩, fun h => absurd rfl h⟩
                      obtain ⟨e1, e2⟩ := hf hg
                      refine ⟨e1, fun q hq => ?_⟩
                      by_cases e : q = p
                      · subst e
                        intro hr
                        have := hr.2.2 (by unfold lenS; rw [heq]; exact k3)
                        unfold lenS at this
                        rw [heq] at this
                        exact hs1 this
                      · exact e2 q (by omega)
                    · exact absurd k3 h3
                · have hrd : Rdy ps (lenS S) p := ⟨hp, by rw [nev_get hp]; exact hk, fun h => by unfold lenS at h; rw [heq] at h; exact absurd h k3⟩
                  have hraw : rawV ps S p (S p).length = preV ps S p (S p).length := by unfold rawV; rw [heq, if_neg k3]
                  rw [hraw]
                  repeat (first | ((with_reducible refine AWp.ofC ?_ ?_); (focus exact rfl); simp only [go_sem]) | ((with_reducible refine And.intro ?_ ?_); focus first | exact True.intro | omega | (intros; (with_reducible and_intros) <;> first | (with_reducible assumption) | omega; done)))
                  intro _
                  exact ⟨_, List.Sublist.refl _, hrd, _, _, _, rfl, hVN, rfl⟩
              · rintro vs L5 - ⟨hrd, b2, cap2, L6, rfl, hV, rfl⟩
                obtain ⟨hr1, hr2⟩ := hG.next hrd
                have hrp := hr2 p
                have hgp : ((rawV ps S p (S p).length).map ai).getD p .any = ai ((rawV ps S p (S p).length).getD p 0) := by
                  have : p < (rawV ps S p (S p).length).length := by omega
                  rw [getD_map this]; simp [this]
                have hvl : (vecV ps S p (S p).length).length = ps.length := (tickV_length _ _).trans hr1
                have hst : ((rawV ps S p (S p).length).map ai).set p (ai ((rawV ps S p (S p).length).getD p 0 + 1)) = (vecV ps S p (S p).length).map ai := by
                  unfold vecV tickV; rw [List.map_set]
                generalize (rawV ps S p (S p).length).getD p 0 = x at *
                generalize rawV ps S p (S p).length = raw at *
                simp only [go_sem]
                repeat ((with_reducible refine And.intro ?_ ?_); focus first | exact True.intro | omega | (intros; (with_reducible and_intros) <;> first | (with_reducible assumption) | omega; done) | (simp; done) | (simp; omega))
                refine AWp.of ?_; simp only [go_sem, hgp]
                repeat ((with_reducible refine And.intro ?_ ?_); focus first | exact True.intro | omega | (intros; (with_reducible and_intros) <;> first | (with_reducible assumption) | omega; done) | (simp; done) | (simp; omega))
                rw [hst]
                have sst := sentA_step hv hrd (vecV ps S p (S p).length)
                rw [heq] at sst
                generalize hvec : vecV ps S p (S p).length = vec at *
                refine AWp.view [true] [(9, .sl 1 (vec.map ai))] (LVw.refl _) ?_ ?_
                · intro q hq
                  simp only [List.mem_singleton] at hq
                  subst hq
                  show Vw _ _ (.sl 1 (vec.map ai))
                  simp only [go_sem]
                  exact Vw.ofLs (t := 3) (cap := cap2) (if_pos rfl) (by rw [List.length_map, hvl])
                simp only [go_sem]
                refine AWp.cut [1, 3, 4, 5, 6, 7, 9, 18, 19, 20] (fun vs L => VSt ps.length bo bs S (sentA ps (upS S p vec)) L ∧
                  vs = [.rp 1 [aTr ps] 0 0, .ls bo 1 0 ps.length ps.length, .ls bs 1 0 200 200, ab g, ai p, .rp 3 [aPr ps[p]] 0 0, .sl 1 (vec.map ai), .sl 3 (ps.map aPr), ai ps.length, ai p]) ?_ ?_
                · obtain ⟨V, Ls, SV, hP, hA, hSl, hT, hcl⟩ := hV.open hp
                  refine AWp.perm hP (AWp.nodup fun hnd => ?_)
                  obtain ⟨n1, n2, n3⟩ := nd2 hnd
                  have hset : ((List.range ps.length).map V).set p (V p) = (List.range ps.length).map V := by
                    rw [map_range_set]; congr 1; funext q
                    by_cases e : q = p
                    · rw [if_pos e, e]
                    · rw [if_neg e]
                  by_cases k2 : e.kind = 2
                  · obtain ⟨b1, b3, _⟩ := formed_msg hfe (.inl k2)
                    have hml : e.msg.toNat < SV.length := by omega
                    have hsh : SV.getD e.msg.toNat .any = anil ∨ ∃ l, SV.getD e.msg.toNat .any = .sl 1 l := by
                      rw [hT e.msg b1 b3]
                      unfold sentA
                      split
                      · exact .inr ⟨_, rfl⟩
                      · exact .inl rfl
                    repeat (first | ((with_reducible refine AWp.ofC ?_ ?_); (focus exact rfl); simp only [go_sem]) | ((with_reducible refine And.intro ?_ ?_); focus first | exact True.intro | omega | (intros; (with_reducible and_intros) <;> first | (with_reducible assumption) | omega; done)))
                    refine ⟨fun h3 => ?_, fun h3 => ?_⟩
                    · rcases hsh with hsv | ⟨l, hsv⟩
                      · repeat (first | ((with_reducible refine AWp.ofC ?_ ?_); (focus exact rfl); simp only [go_sem, hSl, hsv, n1, n2]) | ((with_reducible refine And.intro ?_ ?_); focus first | exact True.intro | omega | (intros; (with_reducible and_intros) <;> first | (with_reducible assumption) | omega; done)))
                        simp only [hsv]
                        refine ⟨_, List.Sublist.refl _, hcl S _ (V p) (Ls p) (SV.set e.msg.toNat (.sl 1 (vec.map ai))) _ (fun _ _ => rfl) hA (by rw [List.length_set]; exact hSl) (fun m g1 g2 => ?_) (by rw [hset])⟩
                        rw [getD_setA, sst m]
                        by_cases em : e.msg = m
                        · subst em; rw [if_pos ⟨rfl, hml⟩, if_pos ⟨k2, rfl⟩]; rfl
                        · rw [if_neg (by omega), if_neg fun h => em h.2, hT m g1 g2]
                      · repeat (first | ((with_reducible refine AWp.ofC ?_ ?_); (focus exact rfl); simp only [go_sem, hSl, hsv, n1, n2]) | ((with_reducible refine And.intro ?_ ?_); focus first | exact True.intro | omega | (intros; (with_reducible and_intros) <;> first | (with_reducible assumption) | omega; done)))
                        simp only [hsv]
                        refine ⟨_, List.Sublist.refl _, hcl S _ (V p) (Ls p) (SV.set e.msg.toNat (.sl 1 (vec.map ai))) _ (fun _ _ => rfl) hA (by rw [List.length_set]; exact hSl) (fun m g1 g2 => ?_) (by rw [hset])⟩
                        rw [getD_setA, sst m]
                        by_cases em : e.msg = m
                        · subst em; rw [if_pos ⟨rfl, hml⟩, if_pos ⟨k2, rfl⟩]; rfl
                        · rw [if_neg (by omega), if_neg fun h => em h.2, hT m g1 g2]
                    · exact absurd k2 h3
                  · repeat (first | ((with_reducible refine AWp.ofC ?_ ?_); (focus exact rfl); simp only [go_sem]) | ((with_reducible refine And.intro ?_ ?_); focus first | exact True.intro | omega | (intros; (with_reducible and_intros) <;> first | (with_reducible assumption) | omega; done)))
                    intro _
                    refine ⟨_, List.Sublist.refl _, hcl S _ (V p) (Ls p) SV _ (fun _ _ => rfl) hA hSl (fun m g1 g2 => ?_) (by rw [hset])⟩
                    rw [hT m g1 g2, sst m, if_neg fun h => k2 h.1]
                · rintro vs L7 - ⟨hV, rfl⟩
                  simp only [go_sem]
                  obtain ⟨V, Ls, SV, hP, hA, hSl, hT, hcl⟩ := hV.open hp
                  refine AWp.perm hP (AWp.nodup fun hnd => ?_)
                  obtain ⟨n1, n2, n3⟩ := nd2 hnd
                  have hnew : upS S p vec p = S p ++ [vec] := if_pos rfl
                  have hold : ∀ q, q ≠ p → upS S p vec q = S q := fun q hq => if_neg hq
                  have hG' : Gen ps (upS S p vec) := by rw [← hvec]; exact hG.step hrd
                  have htot := totS_up hp (S := S) vec
                  have hmono : g = false → totS ps.length (lenS S0) ≤ totS ps.length (lenS S) := fun hg => by rw [(hf hg).1]; exact Nat.le_refl _
                  have hfin : totS ps.length (lenS S0) < totS ps.length (lenS (upS S p vec)) := by
                    rw [htot]
                    cases hg : g with
                    | true => have := ht hg; omega
                    | false => have := hmono hg; omega
                  have hlen' : (upS S p vec p).length = (S p).length + 1 := by rw [hnew]; simp
                  rcases hA.inv with ⟨e1, e2, e3⟩ | ⟨b, cap, e2, e3⟩
                  · have hgd : ((List.range ps.length).map V).getD p .any = anil := by rw [map_range_getD hp, e2]
                    rw [e3] at n3 ⊢
                    repeat ((with_reducible refine And.intro ?_ ?_); focus first | exact True.intro | omega | (intros; (with_reducible and_intros) <;> first | (with_reducible assumption) | omega; done) | (simp; done) | (simp; omega))
                    refine AWp.of ?_; simp only [go_sem, hgd, n1, n2, List.length_range]
                    repeat ((with_reducible refine And.intro ?_ ?_); focus first | exact True.intro | omega | (intros; (with_reducible and_intros) <;> first | (with_reducible assumption) | omega; done) | (simp; done) | (simp; omega))
                    intro b' cap' g1 g2 g3 g4
                    have nb : ¬ bo = b' := by omega
                    have hS0 : S p = [] := by simpa using e1
                    simp only [go_sem, nb, hgd, List.length_range]
                    repeat ((with_reducible refine And.intro ?_ ?_); focus first | exact True.intro | omega | (intros; (with_reducible and_intros) <;> first | (with_reducible assumption) | omega; done) | (simp; done) | (simp; omega))
                    repeat (first | ((with_reducible refine AWp.ofC ?_ ?_); (focus exact rfl); simp only [go_sem, hgd, nb, n1, n2, List.length_range]) | ((with_reducible refine And.intro ?_ ?_); focus first | exact True.intro | omega | (intros; (with_reducible and_intros) <;> first | (with_reducible assumption) | omega; done)))
                    refine ⟨rfl, _, List.Sublist.refl _, 1000000 - (upS S p vec p).length, by omega, upS S p vec, true, rfl, hcl (upS S p vec) _ (.ls b' 1 0 1 cap') [(b', .row 25 1 [aInts vec] cap')] SV _ hold ?_ hSl hT ?_, hG', fun h => (by cases h), fun _ => hfin, rfl⟩
                    · rw [hnew, hS0]; exact .row _ [_] _
                    · exact List.perm_append_comm_assoc [_] [_, _] _
                  · have hgd : ((List.range ps.length).map V).getD p .any = .ls b 1 0 (S p).length cap := by rw [map_range_getD hp, e2, List.length_map]
                    rw [e3] at n3 ⊢
                    obtain ⟨⟨n4, n5⟩, n6, n7⟩ := n3 (b, _) (List.mem_append_left _ (List.mem_singleton_self _))
                    repeat ((with_reducible refine And.intro ?_ ?_); focus first | exact True.intro | omega | (intros; (with_reducible and_intros) <;> first | (with_reducible assumption) | omega; done) | (simp; done) | (simp; omega))
                    refine AWp.of ?_; simp only [go_sem, hgd, n1, n2, n4, n5, n6, n7, List.length_range]
                    repeat ((with_reducible refine And.intro ?_ ?_); focus first | exact True.intro | omega | (intros; (with_reducible and_intros) <;> first | (with_reducible assumption) | omega; done) | (simp; done) | (simp; omega))
                    intro b' cap' g1 g2 g3 g4
                    simp only [go_sem, g2, hgd, List.length_range]
                    repeat ((with_reducible refine And.intro ?_ ?_); focus first | exact True.intro | omega | (intros; (with_reducible and_intros) <;> first | (with_reducible assumption) | omega; done) | (simp; done) | (simp; omega))
                    repeat (first | ((with_reducible refine AWp.ofC ?_ ?_); (focus exact rfl); simp only [go_sem, hgd, g2, n1, n2, List.length_range]) | ((with_reducible refine And.intro ?_ ?_); focus first | exact True.intro | omega | (intros; (with_reducible and_intros) <;> first | (with_reducible assumption) | omega; done)))
                    refine ⟨rfl, _, List.Sublist.refl _, 1000000 - (upS S p vec p).length, by omega, upS S p vec, true, rfl, hcl (upS S p vec) _ (.ls b' 1 0 ((S p).length + 1) cap') [(b', .row 25 1 ((S p).map aInts ++ [aInts vec]) cap')] SV _ hold ?_ hSl hT ?_, hG', fun h => (by cases h), fun _ => hfin, rfl⟩
                    · rw [hnew, List.map_append]
                      have := AppSt.row (t := 25) (k := 1) b' ((S p).map aInts ++ [aInts vec]) cap'
                      simpa using this
                    · exact List.perm_append_comm_assoc [_] [_, _] _
        · refine ⟨rfl, _, List.Sublist.refl _, S, g, rfl, hV, hG, fun hg => ?_, ht⟩
          obtain ⟨e1, e2⟩ := hf hg
          refine ⟨e1, fun q hq => ?_⟩
          by_cases e : q = p
          · subst e
            intro hr
            have := hr.2.1
            rw [nev_get hp] at this
            simp only [lenS] at this
            omega
          · exact e2 q (by omega)
    · rintro vs L' - ⟨S, g, rfl, hV, hG, hf, ht⟩
      simp only [go_sem]
      refine ⟨_, List.Sublist.refl _, _, ?_, S, g, rfl, hV, hG, fun hg q => ?_, rfl⟩
      · have hb := hB S hG
        cases g with
        | true => have := ht rfl; rw [hm, h1]; simp only [if_true]; omega
        | false =>
          obtain ⟨rfl, _⟩ := hf rfl
          rw [hm, h1]; simp
      · by_cases hq : q < ps.length
        · exact (hf hg).2 q hq
        · exact fun hr => hq hr.1
  · have hst := stampF_eq hG0 (hno0 h1)
    obtain ⟨V, Ls, SV, hP, hA, hSl, hT⟩ := hV0
    refine AWp.nodup fun hnd => ?_
    have hnd' : ((famL ps.length Ls).map (·.1)).Nodup := by
      have := (hP.map (·.1)).nodup_iff.1 hnd
      simp only [List.map_cons, List.nodup_cons] at this
      exact this.2.2
    refine AWp.viewP (Lf := famL ps.length Ls) (Lk := [(bs, .row 25 1 SV 200), (bo, .row 22 1 ((List.range ps.length).map V) ps.length)]) (hP.trans (List.perm_append_comm (l₁ := [_, _]))) (.drop (.row (fam_views hnd' hA) .nil)) [] (by simp) ?_
    simp only [go_sem]
    repeat (first | ((with_reducible refine AWp.ofC ?_ ?_); (focus exact rfl); simp only [go_sem]) | ((with_reducible refine And.intro ?_ ?_); focus first | exact True.intro | omega | (intros; (with_reducible and_intros) <;> first | (with_reducible assumption) | omega; done)))
    refine ret_view [true] ?_; simp only [go_sem]
    rw [hst]
    rw [List.map_map]
    exact Vw.ofLs (if_pos rfl) (by simp)
end Go.AL
