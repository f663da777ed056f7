/- Texts of this claim's proof: WRf4, WRf5, WRf6, WRf7, AlBr, AlBr2, AlBr3, AlBr4, AlSrt. No condition. -/
import Derived.Test.YtmnabhohlflkkaaGreatM6
import Derived.Test.YtmnabhohlflkkaaGreatM4
import Derived.ProofKit
import Derived.Lib.LaidTab
import Derived.Shelf.SlSortCmp.Whole1
section
/- The reference of layer 12, fourth part: whether all events can be executed. No condition. -/
namespace Go.AL
open Go Go.RowKit
set_option maxRecDepth 4000
noncomputable def acyB (ps : List Pr) : Bool := (List.range ps.length).all fun p => decide (nev ps p ≤ (stampF ps p).length)
theorem acyB_cyc {ps : List Pr} (hs : Sm ps) (hm : msgF ps = none) (h : acyB ps = true) : cycF ps = none := by
  refine cycF_of_stamps hm (stampF_gen hs).1 fun p hp => ?_
  unfold acyB at h
  rw [List.all_eq_true] at h
  simpa using h p (List.mem_range.2 hp)
theorem ref12_acyclic (ps : List Pr) (hs : Sm ps) (hm : msgF ps = none) (hn : 1 ≤ ps.length) : PC Go.Proofs.Tryz.prog 91 [aTr ps] (ab (acyB ps)) := by
  have hl := hs.procs
  refine PC.enter 86 [.tmp 2] [1, 6, 7] Go.Proofs.Tryz.func91 rfl rfl rfl rfl rfl (by simp) (AWp.of ?_); simp only [go_sem]
  repeat ((with_reducible refine an ?_ ?_); focus exact As)
  refine AWp.of ?_; simp only [go_sem]
  repeat ((with_reducible refine an ?_ ?_); focus exact As)
  intro bd
  have hD0 : List.replicate ps.length (ai 0) = dnA ps.length (lenS fun _ => []) := by
    unfold dnA lenS; apply List.ext_getElem (by simp); intro i h1 h2; simp
  rw [hD0]
  have hB : ∀ S, Gen ps S → totS ps.length (lenS S) ≤ ps.length * 1000000 := fun S h => totS_le _ fun q hq => by
    have h1 := h.le_nev q
    rw [nev_get hq] at h1
    have h2 := hs.evs _ (List.getElem_mem hq)
    unfold lenS; omega
  refine AWp.cut [1, 3] (fun vs L => ∃ S, Gen ps S ∧ (∀ p, ¬ Rdy ps (lenS S) p) ∧ L = [(bd, .row 3 1 (dnA ps.length (lenS S)) ps.length)] ∧ vs = [.rp 1 [aTr ps] 0 0, .ls bd 1 0 ps.length ps.length]) ?_ ?_
  · refine AWp.block (AWp.loopN [] [1, 3] (fun m vs L => ∃ S, Gen ps S ∧ L = [(bd, .row 3 1 (dnA ps.length (lenS S)) ps.length)] ∧ m = ps.length * 1000000 - totS ps.length (lenS S)) (ps.length * 1000000 - totS ps.length (lenS fun _ => [])) ?_ ?_)
    · exact ⟨_, .init, rfl, rfl⟩
    rintro m vs L - ⟨S0, hG0, rfl, rfl⟩
    simp only [go_sem]
    repeat (first | ((with_reducible refine AWp.ofC ?_ ?_); (focus exact rfl); simp only [go_sem]) | ((with_reducible refine an ?_ ?_); focus exact Au))
    refine AWp.block (AWp.count 5 ps.length [4] [1, 3] (fun p vs L => ∃ S g, vs = [ab g] ∧ L = [(bd, .row 3 1 (dnA ps.length (lenS S)) ps.length)] ∧ Gen ps S ∧ (g = false → S = S0 ∧ ∀ q, q < p → ¬ Rdy ps (lenS S) q) ∧ (g = true → totS ps.length (lenS S0) < totS ps.length (lenS S)))
      rfl rfl ⟨S0, false, rfl, rfl, hG0, fun _ => ⟨rfl, fun q hq => by omega⟩, fun h => (by cases h)⟩ ?_)
    rintro p vs L hp - ⟨S1, g1, rfl, rfl, hG1, hf1, ht1⟩
    simp only [go_sem]
    repeat (first | ((with_reducible refine AWp.ofC ?_ ?_); (focus exact rfl); simp only [go_sem]) | ((with_reducible refine an ?_ ?_); focus exact Au))
    refine ⟨fun h1 => ?_, fun h1 => ?_⟩
    · have hpp : p < ps.length := by omega
      have hel := hs.evs _ (List.getElem_mem hpp)
      have hgP := getD_map (f := aPr) hpp
      refine AWp.seq (AWp.block (AWp.block (AWp.loopN [4] [1, 3, 5] (fun m vs L => ∃ S g, vs = [ab g] ∧ L = [(bd, .row 3 1 (dnA ps.length (lenS S)) ps.length)] ∧ Gen ps S ∧ (g = false → S = S0 ∧ ∀ q, q < p → ¬ Rdy ps (lenS S) q) ∧ (g = true → totS ps.length (lenS S0) < totS ps.length (lenS S)) ∧ m = 1000000 - (S p).length)
        (1000000 - (S1 p).length) ?_ ?_)))
      · exact ⟨S1, g1, rfl, rfl, hG1, hf1, ht1, rfl⟩
      rintro m' vs L - ⟨S, g, rfl, rfl, hG, hf, ht, hm'⟩
      have hle := hG.le_nev p
      rw [nev_get hpp] at hle
      have hgd := dnA_get hpp (lenS S)
      have hlS : lenS S p = (S p).length := rfl
      simp only [go_sem]
      refine AWp.seq (AWp.seq ?_)
      repeat (first | (with_reducible refine AWp.seq ?_) | (with_reducible refine AWp.block ?_))
      refine AWp.mix mixed [0, 1, 2, 4, 5, 6, 7, 8, 9, 10] (.step 3 (.step 11 .done .done) .done) (by kernel_rfl) ?_; simp only [go_sem, hgP, hgd, dnA_length]
      repeat ((with_reducible refine an ?_ ?_); focus exact As)
      repeat (first | ((with_reducible refine AWp.ofC ?_ ?_); (focus exact rfl); simp only [go_sem]) | ((with_reducible refine an ?_ ?_); focus exact Au))
      refine ⟨fun h2 => ?_, fun h2 => ?_⟩
      · have hk : (S p).length < ps[p].evs.length := by unfold lenS at h2; omega
        have hgk := getD_map (f := aEv) hk
        have heq := evq_get hpp hk
        have hrdy : Rdy ps (lenS S) p ↔ (ps[p].evs[(S p).length].kind = 3 → 0 < (sndr ps ps[p].evs[(S p).length].msg).2 ∧ (sndr ps ps[p].evs[(S p).length].msg).2 ≤ lenS S (sndr ps ps[p].evs[(S p).length].msg).1.toNat) := by
          unfold Rdy
          rw [hlS, heq]
          exact ⟨fun h => h.2.2, fun h => ⟨hpp, by rw [nev_get hpp]; exact hk, h⟩⟩
        have h0s := recv_sndr hm hpp hk
        rw [hlS] at hgd
        generalize ps[p].evs[(S p).length] = e at *
        refine AWp.block ?_
        refine AWp.cut [1, 3, 4, 5, 6] (fun vs L => L = [(bd, .row 3 1 (dnA ps.length (lenS S)) ps.length)] ∧ vs = [.rp 1 [aTr ps] 0 0, .ls bd 1 0 ps.length ps.length, ab g, ai p, .rp 5 [aEv e] 0 0]) ?_ ?_
        · repeat (first | (with_reducible refine AWp.seq ?_) | (with_reducible refine AWp.block ?_))
          refine AWp.mix mixed [0, 1, 2, 3, 4, 5, 6, 7, 8] (.step 9 (.step 10 (.step 11 (.step 12 (.step 13 .done .done) .done) (.step 12 (.step 11 (.step 13 .done .done) .done) .done)) (.step 12 (.step 10 (.step 11 (.step 13 .done .done) .done) .done) .done)) (.step 12 (.step 9 (.step 10 (.step 11 (.step 13 .done .done) .done) .done) .done) .done)) (by kernel_rfl) ?_; simp only [go_sem, hgP, hgd, hgk, dnA_length]
          repeat' (first | (with_reducible refine And.intro ?_ ?_) | intro _)
          all_goals first | omega | exact ⟨_, List.Sublist.refl _, rfl⟩ | (rename_i bN k1; have nb : ¬ bd = bN := (by omega); simp only [go_sem, nb, hgd, hgk, dnA_length])
          all_goals repeat' (first | (with_reducible refine And.intro ?_ ?_) | intro _)
          all_goals first | omega | exact ⟨_, List.Sublist.refl _, rfl⟩
        · rintro vs L - ⟨rfl, rfl⟩
          simp only [go_sem]
          refine AWp.cut [1, 3, 4, 5] (fun vs L => Rdy ps (lenS S) p ∧ L = [(bd, .row 3 1 (dnA ps.length (lenS S)) ps.length)] ∧ vs = [.rp 1 [aTr ps] 0 0, .ls bd 1 0 ps.length ps.length, ab g, ai p]) ?_ ?_
          · repeat (first | ((with_reducible refine AWp.ofC ?_ ?_); (focus exact rfl); simp only [go_sem]) | ((with_reducible refine an ?_ ?_); focus exact Au))
            refine ⟨fun h3 => ?_, fun h3 => ?_⟩
            · have hfd := ref12_Find ps hs 2 e.msg
              have hse : findIn (evIds ps) 2 e.msg = sndr ps e.msg := rfl
              obtain ⟨f1, f2⟩ := findIn_proc hn 2 e.msg
              rw [hse] at hfd f1 f2
              generalize sndr ps e.msg = sd at *
              have hgs := dnA_get (show sd.1.toNat < ps.length by omega) (lenS S)
              repeat (first | ((with_reducible refine AWp.ofC ?_ ?_); (focus exact rfl); simp only [go_sem]) | ((with_reducible refine an ?_ ?_); focus exact Au))
              repeat ((with_reducible refine an ?_ ?_); focus exact As)
              refine (hfd).val.use ?_; simp only [go_sem]
              repeat ((with_reducible refine an ?_ ?_); focus exact As)
              intro b7 hb7
              have nb : ¬ bd = b7 := by omega
              refine AWp.seq ?_
              repeat (first | (with_reducible refine AWp.seq ?_) | (with_reducible refine AWp.block ?_))
              refine AWp.mix mixed [0, 1, 2, 3, 5, 6] (.step 4 (.step 7 .done .done) .done) (by kernel_rfl) ?_; simp only [go_sem, hgs, dnA_length]
              repeat ((with_reducible refine an ?_ ?_); focus exact As)
              repeat (first | ((with_reducible refine AWp.ofC ?_ ?_); (focus exact rfl); simp only [go_sem]) | ((with_reducible refine an ?_ ?_); focus exact Au))
              refine ⟨fun h4 => ?_, fun h4 => ?_⟩
              · repeat (first | ((with_reducible refine AWp.ofC ?_ ?_); (focus exact rfl); simp only [go_sem]) | ((with_reducible refine an ?_ ?_); focus exact Au))
                refine ⟨_, List.Sublist.refl _, S, g, rfl, rfl, hG, fun hg => ?_, ht⟩
                obtain ⟨e1, e2⟩ := hf hg
                refine ⟨e1, fun q hq => ?_⟩
                by_cases e : q = p
                · subst e
                  intro hr
                  have := hrdy.1 hr h3
                  omega
                · exact e2 q (by omega)
              · exact ⟨_, List.Sublist.refl _, hrdy.2 fun _ => ⟨h0s h3, by omega⟩, rfl⟩
            · exact ⟨_, List.Sublist.refl _, hrdy.2 fun h => absurd h h3, rfl⟩
          · rintro vs L - ⟨hrd, rfl, rfl⟩
            have hG' := hG.step hrd
            have htot := totS_up hpp (S := S) (vecV ps S p (S p).length)
            have hset := dnA_set (n := ps.length) (p := p) (c := lenS S) (c' := lenS (upS S p (vecV ps S p (S p).length))) (x := ((S p).length : Int) + 1) (by unfold lenS; rw [upS_len, if_pos rfl]; omega) (fun q hq => by unfold lenS; rw [upS_len, if_neg hq])
            have hlen' : (upS S p (vecV ps S p (S p).length) p).length = (S p).length + 1 := by rw [upS_len, if_pos rfl]
            simp only [go_sem]
            repeat ((with_reducible refine an ?_ ?_); focus exact As)
            refine AWp.of ?_; simp only [go_sem, hgd, dnA_length]
            repeat ((with_reducible refine an ?_ ?_); focus exact As)
            rw [hset]
            repeat (first | ((with_reducible refine AWp.ofC ?_ ?_); (focus exact rfl); simp only [go_sem]) | ((with_reducible refine an ?_ ?_); focus exact Au))
            refine ⟨_, List.Sublist.refl _, 1000000 - (upS S p (vecV ps S p (S p).length) p).length, by omega, _, true, rfl, rfl, hG', fun h => (by cases h), fun _ => ?_, rfl⟩
            rw [htot]
            cases hg : g with
            | true => have := ht hg; omega
            | false => rw [(hf hg).1]; omega
      · repeat (first | ((with_reducible refine AWp.ofC ?_ ?_); (focus exact rfl); simp only [go_sem]) | ((with_reducible refine an ?_ ?_); focus exact Au))
        refine ⟨_, List.Sublist.refl _, S, g, rfl, rfl, hG, fun hg => ?_, ht⟩
        obtain ⟨e1, e2⟩ := hf hg
        refine ⟨e1, fun q hq => ?_⟩
        by_cases e : q = p
        · subst e
          intro hr
          have := hr.2.1
          rw [nev_get hpp] at this
          omega
        · exact e2 q (by omega)
    · have hpn : p = ps.length := by omega
      repeat (first | ((with_reducible refine AWp.ofC ?_ ?_); (focus exact rfl); simp only [go_sem]) | ((with_reducible refine an ?_ ?_); focus exact Au))
      refine ⟨fun h2 => ?_, fun h2 => ?_⟩
      · refine ⟨_, List.Sublist.refl _, S1, hG1, fun q hr => ?_, rfl⟩
        exact (hf1 h2).2 q (by have := hr.1; omega) hr
      · have h3 := ht1 h2
        have h4 := hB S1 hG1
        exact ⟨_, List.Sublist.refl _, _, by omega, S1, hG1, rfl, rfl⟩
  · rintro vs L - ⟨S, hG, hmx, rfl, rfl⟩
    have hst := stampF_eq hG hmx
    simp only [go_sem]
    repeat (first | ((with_reducible refine AWp.ofC ?_ ?_); (focus exact rfl); simp only [go_sem]) | ((with_reducible refine an ?_ ?_); focus exact Au))
    refine AWp.block (AWp.count 8 ps.length [] [1, 3] (fun p vs L => L = [(bd, .row 3 1 (dnA ps.length (lenS S)) ps.length)] ∧ ∀ q, q < p → nev ps q ≤ (stampF ps q).length) rfl rfl ⟨rfl, by omega⟩ ?_)
    rintro p vs L hp - ⟨rfl, hI⟩
    simp only [go_sem]
    repeat (first | ((with_reducible refine AWp.ofC ?_ ?_); (focus exact rfl); simp only [go_sem]) | ((with_reducible refine an ?_ ?_); focus exact Au))
    refine ⟨fun h1 => ?_, fun h1 => ?_⟩
    · have hpp : p < ps.length := by omega
      have hel := hs.evs _ (List.getElem_mem hpp)
      have hgP := getD_map (f := aPr) hpp
      have hgd := dnA_get hpp (lenS S)
      refine AWp.seq (AWp.block (AWp.seq ?_))
      repeat (first | (with_reducible refine AWp.seq ?_) | (with_reducible refine AWp.block ?_))
      refine AWp.mix mixed [0, 1, 2, 4, 5, 6, 7, 8, 9, 10] (.step 3 (.step 11 .done .done) .done) (by kernel_rfl) ?_; simp only [go_sem, hgP, hgd, dnA_length]
      repeat ((with_reducible refine an ?_ ?_); focus exact As)
      repeat (first | ((with_reducible refine AWp.ofC ?_ ?_); (focus exact rfl); simp only [go_sem]) | ((with_reducible refine an ?_ ?_); focus exact Au))
      refine ⟨fun h2 => ?_, fun h2 => ?_⟩
      · repeat (first | ((with_reducible refine AWp.ofC ?_ ?_); (focus exact rfl); simp only [go_sem]) | ((with_reducible refine an ?_ ?_); focus exact Au))
        refine ret_eq ?_; simp only [go_sem]
        unfold acyB
        congr 2; symm
        rw [List.all_eq_false]
        refine ⟨p, List.mem_range.2 hpp, ?_⟩
        rw [hst, decide_eq_true_eq, nev_get hpp]
        unfold lenS at h2; omega
      · repeat (first | ((with_reducible refine AWp.ofC ?_ ?_); (focus exact rfl); simp only [go_sem]) | ((with_reducible refine an ?_ ?_); focus exact Au))
        refine ⟨_, List.Sublist.refl _, rfl, fun q hq => ?_⟩
        by_cases e : q = p
        · subst e; rw [hst, nev_get hpp]; unfold lenS at h2; omega
        · exact hI q (by omega)
    · repeat (first | ((with_reducible refine AWp.ofC ?_ ?_); (focus exact rfl); simp only [go_sem]) | ((with_reducible refine an ?_ ?_); focus exact Au))
      refine ret_eq ?_; simp only [go_sem]
      unfold acyB
      congr 2; symm
      rw [List.all_eq_true]
      exact fun q hq => decide_eq_true (hI q (by have := List.mem_range.1 hq; omega))
end Go.AL
end
section
/- The reference of layer 12, fifth part: what comes directly before an event; its past. No condition. -/
namespace Go.AL
open Go Go.RowKit
set_option maxRecDepth 4000
/-! ### The search for a past -/
structure Psr (ps : List Pr) (x : Eid) (seen q : List Eid) : Prop where
  sv : ∀ y ∈ seen, VEv ps y ∧ Reach ps y x
  qv : ∀ y ∈ q, VEv ps y ∧ Reach ps y x
  nodup : seen.Nodup
  c1 : ∀ z, VEv ps z → Nx ps z x → z ∈ seen ∨ z ∈ q
  c2 : ∀ y ∈ seen, ∀ z, VEv ps z → Nx ps z y → z ∈ seen ∨ z ∈ q
  size : q.length ≤ 2 * (seen.length + 1)
theorem dirL_length (ps : List Pr) (p i : Nat) : (dirL ps p i).length ≤ 2 := by
  unfold dirL
  rw [List.length_append]
  have h1 : (if 0 < i then [((p : Int), (i : Int))] else []).length ≤ 1 := by split <;> simp
  have h2 : (if (evq ps p i).kind = 3 then [sndr ps (evq ps p i).msg] else []).length ≤ 1 := by split <;> simp
  omega
theorem Psr.start {ps : List Pr} (hm : msgF ps = none) {p : Nat} (hp : p < ps.length) {i : Nat} (hi : i < ps[p].evs.length) : Psr ps ((p : Int), (i : Int) + 1) [] (dirL ps p i) :=
  ⟨fun y h => (by cases h), fun y h => let ⟨a, b⟩ := (dirL_iff hm hp hi y).1 h; ⟨a, .single b⟩, .nil, fun z h1 h2 => .inr ((dirL_iff hm hp hi z).2 ⟨h1, h2⟩), fun y h => (by cases h), (by have := dirL_length ps p i; simp only [List.length_nil]; omega)⟩
theorem Psr.skip {ps : List Pr} {x y : Eid} {seen q : List Eid} (h : Psr ps x seen (y :: q)) (hy : y ∈ seen) : Psr ps x seen q := by
  have hc : ∀ z, z ∈ seen ∨ z ∈ y :: q → z ∈ seen ∨ z ∈ q := fun z hz => by
    rcases hz with hz | hz
    · exact .inl hz
    · rcases List.mem_cons.1 hz with rfl | hz
      · exact .inl hy
      · exact .inr hz
  exact ⟨h.sv, fun z hz => h.qv z (List.mem_cons_of_mem _ hz), h.nodup, fun z h1 h2 => hc z (h.c1 z h1 h2), fun w hw z h1 h2 => hc z (h.c2 w hw z h1 h2), by have := h.size; simp at this; omega⟩
theorem Reach.head {ps : List Pr} {a b y : Eid} (hr : Reach ps b y) (hn : Nx ps a b) : Reach ps a y := by
  induction hr with
  | single h => exact .tail (.single hn) h
  | tail _ h ih => exact .tail ih h
theorem Psr.mark {ps : List Pr} (hm : msgF ps = none) {x : Eid} {seen q : List Eid} {p : Nat} (hp : p < ps.length) {i : Nat} (hi : i < ps[p].evs.length) (h : Psr ps x seen (((p : Int), (i : Int) + 1) :: q)) (hy : ((p : Int), (i : Int) + 1) ∉ seen) :
    Psr ps x (((p : Int), (i : Int) + 1) :: seen) (q ++ dirL ps p i) := by
  have hyx := h.qv _ List.mem_cons_self
  have hc : ∀ z, z ∈ seen ∨ z ∈ ((p : Int), (i : Int) + 1) :: q → z ∈ ((p : Int), (i : Int) + 1) :: seen ∨ z ∈ q ++ dirL ps p i := fun z hz => by
    rcases hz with hz | hz
    · exact .inl (List.mem_cons_of_mem _ hz)
    · rcases List.mem_cons.1 hz with rfl | hz
      · exact .inl List.mem_cons_self
      · exact .inr (List.mem_append_left _ hz)
  refine ⟨fun z hz => ?_, fun z hz => ?_, List.nodup_cons.2 ⟨hy, h.nodup⟩, fun z h1 h2 => hc z (h.c1 z h1 h2), fun w hw z h1 h2 => ?_, ?_⟩
  · rcases List.mem_cons.1 hz with rfl | hz
    · exact hyx
    · exact h.sv z hz
  · rcases List.mem_append.1 hz with hz | hz
    · exact h.qv z (List.mem_cons_of_mem _ hz)
    · obtain ⟨a, b⟩ := (dirL_iff hm hp hi z).1 hz
      exact ⟨a, hyx.2.head b⟩
  · rcases List.mem_cons.1 hw with rfl | hw
    · exact .inr (List.mem_append_right _ ((dirL_iff hm hp hi z).2 ⟨h1, h2⟩))
    · exact hc z (h.c2 w hw z h1 h2)
  · have h1 := h.size
    have h2 := dirL_length ps p i
    simp only [List.length_cons, List.length_append] at h1 ⊢
    omega
theorem Psr.done {ps : List Pr} {x : Eid} {seen : List Eid} (h : Psr ps x seen []) {z : Eid} (hz : VEv ps z) : z ∈ seen ↔ Reach ps z x := by
  refine ⟨fun hs => (h.sv z hs).2, fun hr => ?_⟩
  have key : ∀ c, Reach ps z c → (c = x ∨ c ∈ seen) → z ∈ seen := fun c hc => by
    induction hc with
    | single hn =>
      rintro (rfl | hc)
      · exact (h.c1 z hz hn).resolve_right (by simp)
      · exact (h.c2 _ hc z hz hn).resolve_right (by simp)
    | @tail b c hb hn ih =>
      have hbv : VEv ps b := Reach.valid hb hz
      rintro (rfl | hc)
      · exact ih (.inr ((h.c1 b hbv hn).resolve_right (by simp)))
      · exact ih (.inr ((h.c2 _ hc b hbv hn).resolve_right (by simp)))
  exact key x hr (.inl rfl)
theorem Psr.small {ps : List Pr} {x : Eid} {seen q : List Eid} (h : Psr ps x seen q) : seen.length ≤ (evIds ps).length := by
  have := List.Nodup.length_le_of_subset h.nodup (l₂ := (evIds ps).map (·.1)) (fun y hy => (h.sv y hy).1.mem)
  simpa using this
/-- The row of a process in the table of a past. -/
def pRow (ps : List Pr) (seen : List Eid) (p : Nat) : List AV := (List.range (nev ps p + 1)).map fun (k : Nat) => ab (decide (((p : Int), (k : Int)) ∈ seen))
theorem pRow_length (ps : List Pr) (seen : List Eid) (p : Nat) : (pRow ps seen p).length = nev ps p + 1 := by simp [pRow]
theorem pRow_get {ps : List Pr} {seen : List Eid} {p k : Nat} (hk : k < nev ps p + 1) : (pRow ps seen p).getD k .any = ab (decide (((p : Int), (k : Int)) ∈ seen)) := map_range_getD hk _
theorem pRow_set {ps : List Pr} {seen : List Eid} {p k : Nat} : (pRow ps seen p).set k (ab true) = pRow ps (((p : Int), (k : Int)) :: seen) p := by
  unfold pRow
  rw [map_range_set]; congr 1; funext j
  by_cases e : j = k
  · subst e; rw [if_pos rfl, decide_eq_true List.mem_cons_self]
  · rw [if_neg e]
    have : (((p : Int), (j : Int)) ∈ ((p : Int), (k : Int)) :: seen) ↔ (((p : Int), (j : Int)) ∈ seen) := by
      rw [List.mem_cons, Prod.mk.injEq]
      exact ⟨fun h => h.resolve_left fun h => e (by omega), .inr⟩
    rw [decide_eq_decide.2 this]
theorem pRow_other {ps : List Pr} {seen : List Eid} {p k q : Nat} (h : q ≠ p) : pRow ps (((p : Int), (k : Int)) :: seen) q = pRow ps seen q := by
  unfold pRow
  congr 1; funext j
  have : (((q : Int), (j : Int)) ∈ ((p : Int), (k : Int)) :: seen) ↔ (((q : Int), (j : Int)) ∈ seen) := by
    rw [List.mem_cons, Prod.mk.injEq]
    exact ⟨fun h' => h'.resolve_left fun h' => h (by omega), .inr⟩
  rw [decide_eq_decide.2 this]
theorem pRow_nil (ps : List Pr) (p : Nat) : pRow ps [] p = List.replicate (nev ps p + 1) (ab false) := by
  unfold pRow; apply List.ext_getElem (by simp); intro i h1 h2; simp
open Classical in
/-- Which events happen before one, as a table. -/
noncomputable def pastA (ps : List Pr) (x : Eid) : AV := .sl 1 ((List.range ps.length).map fun (p : Nat) => .sl 1 ((List.range (nev ps p + 1)).map fun (k : Nat) => ab (decide (VEv ps ((p : Int), (k : Int)) ∧ Reach ps ((p : Int), (k : Int)) x))))
theorem pastA_of {ps : List Pr} {x : Eid} {seen : List Eid} (h : Psr ps x seen []) : AV.sl 1 ((List.range ps.length).map fun p => AV.sl 1 (pRow ps seen p)) = pastA ps x := by
  unfold pastA pRow
  congr 2; funext p; congr 2; funext k
  have : (((p : Int), (k : Int)) ∈ seen) ↔ (VEv ps ((p : Int), (k : Int)) ∧ Reach ps ((p : Int), (k : Int)) x) :=
    ⟨fun hs => h.sv _ hs, fun ⟨h1, h2⟩ => (h.done h1).2 h2⟩
  rw [decide_eq_decide.2 this]
/-! ### Walks -/
theorem ref12_Directly (ps : List Pr) (hs : Sm ps) (p : Nat) (hp : p < ps.length) (i : Nat) (hi : i < ps[p].evs.length) : MCalls Go.Proofs.Tryz.prog 121 [aTr ps, aEid (p, (i : Int) + 1)] [] fun r L => AppSt 66 2 ((dirL ps p i).map aEid) r L := by
  have hel := hs.evs _ (List.getElem_mem hp)
  have hat := ref12_At ps hs p hp i hi
  have hd : dirL ps p i = (if 0 < i then [((p : Int), (i : Int))] else []) ++ (if ps[p].evs[i].kind = 3 then [sndr ps ps[p].evs[i].msg] else []) := by
    unfold dirL; rw [evq_get hp hi]
  have hfd := ref12_Find ps hs 2 ps[p].evs[i].msg
  have hse : findIn (evIds ps) 2 ps[p].evs[i].msg = sndr ps ps[p].evs[i].msg := rfl
  rw [hse] at hfd
  rw [hd]
  generalize ps[p].evs[i] = e at *
  generalize sndr ps e.msg = sd at *
  have e1 : (i : Int) + 1 - 1 = i := by omega
  refine MCalls.enter' 33 [.tmp 4] [2, 3, 6, 17, 30] Go.Proofs.Tryz.func121 rfl rfl rfl rfl rfl (by simp) (AWp.of ?_); simp only [go_sem]
  repeat (first | ((with_reducible refine AWp.ofC ?_ ?_); (focus exact rfl); simp only [go_sem]) | ((with_reducible refine an ?_ ?_); focus exact Au))
  repeat (first | ((with_reducible refine AWp.ofC ?_ ?_); (focus exact rfl); simp only [go_sem]) | ((with_reducible refine an ?_ ?_); focus exact Au))
  refine ⟨fun h1 => ?_, fun h1 => ?_⟩
  · rw [if_pos (show 0 < i by omega)]
    repeat (first | ((with_reducible refine AWp.ofC ?_ ?_); (focus exact rfl); simp only [go_sem, e1]) | ((with_reducible refine an ?_ ?_); focus exact Au))
    repeat ((with_reducible refine an ?_ ?_); focus exact As)
    intro b cap g1
    repeat (first | ((with_reducible refine AWp.ofC ?_ ?_); (focus exact rfl); simp only [go_sem]) | ((with_reducible refine an ?_ ?_); focus exact Au))
    repeat ((with_reducible refine an ?_ ?_); focus exact As)
    refine (hat).val.use ?_; simp only [go_sem]
    repeat ((with_reducible refine an ?_ ?_); focus exact As)
    intro b6 g2
    repeat (first | ((with_reducible refine AWp.ofC ?_ ?_); (focus exact rfl); simp only [go_sem]) | ((with_reducible refine an ?_ ?_); focus exact Au))
    refine ⟨fun h2 => ?_, fun h2 => ?_⟩
    · rw [if_pos h2]
      repeat (first | ((with_reducible refine AWp.ofC ?_ ?_); (focus exact rfl); simp only [go_sem]) | ((with_reducible refine an ?_ ?_); focus exact Au))
      repeat ((with_reducible refine an ?_ ?_); focus exact As)
      refine (hfd).val.use ?_; simp only [go_sem]
      repeat ((with_reducible refine an ?_ ?_); focus exact As)
      intro b2 cap2 g3
      repeat (first | ((with_reducible refine AWp.ofC ?_ ?_); (focus exact rfl); simp only [go_sem]) | ((with_reducible refine an ?_ ?_); focus exact Au))
      refine ret_own ?_
      simp only [go_sem]
      rw [e1]
      exact .row _ [_, _] _
    · rw [if_neg h2]
      repeat (first | ((with_reducible refine AWp.ofC ?_ ?_); (focus exact rfl); simp only [go_sem]) | ((with_reducible refine an ?_ ?_); focus exact Au))
      refine ret_own ?_
      simp only [go_sem]
      rw [e1]
      exact .row _ [_] _
  · rw [if_neg (show ¬ 0 < i by omega)]
    repeat (first | ((with_reducible refine AWp.ofC ?_ ?_); (focus exact rfl); simp only [go_sem]) | ((with_reducible refine an ?_ ?_); focus exact Au))
    repeat ((with_reducible refine an ?_ ?_); focus exact As)
    refine (hat).val.use ?_; simp only [go_sem]
    repeat ((with_reducible refine an ?_ ?_); focus exact As)
    intro b6
    repeat (first | ((with_reducible refine AWp.ofC ?_ ?_); (focus exact rfl); simp only [go_sem]) | ((with_reducible refine an ?_ ?_); focus exact Au))
    refine ⟨fun h2 => ?_, fun h2 => ?_⟩
    · rw [if_pos h2]
      repeat (first | ((with_reducible refine AWp.ofC ?_ ?_); (focus exact rfl); simp only [go_sem]) | ((with_reducible refine an ?_ ?_); focus exact Au))
      repeat ((with_reducible refine an ?_ ?_); focus exact As)
      refine (hfd).val.use ?_; simp only [go_sem]
      repeat ((with_reducible refine an ?_ ?_); focus exact As)
      intro b2 cap2 g3
      repeat (first | ((with_reducible refine AWp.ofC ?_ ?_); (focus exact rfl); simp only [go_sem]) | ((with_reducible refine an ?_ ?_); focus exact Au))
      refine ret_own ?_
      simp only [go_sem]
      exact .row _ [_] _
    · rw [if_neg h2]
      repeat (first | ((with_reducible refine AWp.ofC ?_ ?_); (focus exact rfl); simp only [go_sem]) | ((with_reducible refine an ?_ ?_); focus exact Au))
      refine ret_own ?_
      simp only [go_sem]
      exact .nil
end Go.AL
end
section
/- The reference of layer 12, sixth part: the past of an event. No condition. -/
namespace Go.AL
open Go Go.RowKit
set_option maxRecDepth 4000
/-- A table of rows in the memory: its head in bo. -/
def RSt (n bo cap : Nat) (Y : Nat → List AV) (L : AHeap) : Prop :=
  ∃ (V : Nat → AV) (Ls : Nat → AHeap), L.Perm ((bo, .row 95 1 ((List.range n).map V) cap) :: famL n Ls) ∧ ∀ p, p < n → AppSt 4 1 (Y p) (V p) (Ls p)
theorem RSt.perm {n bo cap : Nat} {Y : Nat → List AV} {L L' : AHeap} (hp : L'.Perm L) (h : RSt n bo cap Y L) : RSt n bo cap Y L' :=
  let ⟨V, Ls, h1, h2⟩ := h
  ⟨V, Ls, hp.trans h1, h2⟩
theorem RSt.open {n bo cap : Nat} {Y : Nat → List AV} {L : AHeap} (h : RSt n bo cap Y L) {p : Nat} (hp : p < n) (hY : 0 < (Y p).length) :
    ∃ (V : Nat → AV) (b cp : Nat) (X : AHeap), L.Perm ((bo, .row 95 1 ((List.range n).map V) cap) :: (b, .row 4 1 (Y p) cp) :: X) ∧ V p = .ls b 1 0 (Y p).length cp ∧
      ∀ (Y' : Nat → List AV) (L' : AHeap), (∀ q, q ≠ p → Y' q = Y q) → (Y' p).length = (Y p).length → L'.Perm ((bo, .row 95 1 ((List.range n).map V) cap) :: (b, .row 4 1 (Y' p) cp) :: X) → RSt n bo cap Y' L' := by
  obtain ⟨V, Ls, h1, h2⟩ := h
  rcases (h2 p hp).inv with ⟨e, _, _⟩ | ⟨b, cp, e1, e2⟩
  · rw [e] at hY; simp at hY
  · have hsp := fam_split hp Ls
    rw [e2] at hsp
    refine ⟨V, b, cp, famR n p Ls, h1.trans (hsp.cons _), e1, fun Y' L' hq hl hL => ?_⟩
    refine ⟨V, fun q => if q = p then [(b, .row 4 1 (Y' p) cp)] else Ls q, ?_, fun q hqn => ?_⟩
    · refine hL.trans (List.Perm.cons _ ?_)
      have hsp := fam_split hp (fun q => if q = p then [(b, ABlk.row 4 1 (Y' p) cp)] else Ls q)
      rw [if_pos rfl, famR_congr (Ls := Ls) (fun q hq => if_neg hq)] at hsp
      exact hsp.symm
    · by_cases e : q = p
      · subst e; dsimp only; rw [if_pos rfl, e1, ← hl]; exact .row _ _ _
      · dsimp only; rw [if_neg e, hq q e]; exact h2 q hqn
/-- A queue of events: the end of a row. -/
def QSt (q : List Eid) (v : AV) (L : AHeap) : Prop :=
  (q = [] ∧ v = anil ∧ L = []) ∨ ∃ b off cap capb xs, v = .ls b 2 off q.length cap ∧ L = [(b, .row 66 2 xs capb)] ∧ (xs.drop off).take q.length = q.map aEid ∧ off + q.length ≤ xs.length ∧ q.length ≤ cap ∧ off + cap = capb
theorem QSt.of {q : List Eid} {v : AV} {L : AHeap} (h : AppSt 66 2 (q.map aEid) v L) (hc : ∀ b cap, L = [(b, .row 66 2 (q.map aEid) cap)] → q.length ≤ cap) : QSt q v L := by
  rcases h.inv with ⟨e1, e2, e3⟩ | ⟨b, cap, e1, e2⟩
  · exact .inl ⟨by simpa using e1, e2, e3⟩
  · refine .inr ⟨b, 0, cap, cap, q.map aEid, by rw [e1, List.length_map], e2, ?_, by simp, hc b cap e2, by omega⟩
    rw [List.drop_zero, List.take_of_length_le (by simp)]
theorem AWp.queue {C : Cfg} {c : Code} {Q : AQ} {ρ : Env} {L Lq L1 : AHeap} {q : List Eid} {v : AV} (hP : L.Perm (Lq ++ L1)) (hA : AppSt 66 2 (q.map aEid) v Lq) (h : QSt q v Lq → AWp C c Q ρ L) : AWp C c Q ρ L := by
  rcases hA.inv with ⟨e1, e2, e3⟩ | ⟨b, cap, e1, e2⟩
  · exact h (.inl ⟨by simpa using e1, e2, e3⟩)
  · subst e2
    refine AWp.rowLe (hP.mem_iff.2 (List.mem_append_left _ (List.mem_singleton_self _))) fun hle => h (QSt.of hA fun b' cap' e => ?_)
    simp only [List.cons.injEq, Prod.mk.injEq, ABlk.row.injEq, and_true] at e
    obtain ⟨_, _, _, _, rfl⟩ := e
    simpa using hle
theorem queue_tail {xs : List AV} {off n : Nat} {a : AV} {l : List AV} (h : (xs.drop off).take (n + 1) = a :: l) : xs.getD off .any = a ∧ (xs.drop (off + 1)).take n = l := by
  have hd : xs.drop (off + 1) = (xs.drop off).drop 1 := by rw [List.drop_drop]
  cases hx : xs.drop off with
  | nil => rw [hx] at h; cases h
  | cons b r =>
    rw [hx] at h
    simp only [List.take_succ_cons, List.cons.injEq] at h
    refine ⟨?_, by rw [hd, hx]; simpa using h.2⟩
    have e : xs[off]? = some b := by
      have := List.getElem?_drop (xs := xs) (i := off) (j := 0)
      rw [hx] at this
      simpa using this.symm
    rw [List.getD_eq_getElem?_getD, e]; exact h.1
theorem ref12_Past (ps : List Pr) (hs : Sm ps) (hm : msgF ps = none) (hn : 1 ≤ ps.length) (p : Nat) (hp : p < ps.length) (i : Nat) (hi : i < ps[p].evs.length) : PC Go.Proofs.Tryz.prog 92 [aTr ps, aEid (p, (i : Int) + 1)] (pastA ps ((p : Int), (i : Int) + 1)) := by
  have hl := hs.procs
  refine PC.enter 75 [.tmp 4] [2, 3, 8, 28, 72] Go.Proofs.Tryz.func92 rfl rfl rfl rfl rfl (by simp) (AWp.of ?_); simp only [go_sem]
  repeat ((with_reducible refine an ?_ ?_); focus exact As)
  refine AWp.of ?_; simp only [go_sem]
  refine AWp.cut [2, 3, 5] (fun vs L => ∃ bo cap, vs = [.rp 1 [aTr ps] 0 0, .rp 2 [aEid (p, (i : Int) + 1)] 0 0, .ls bo 1 0 ps.length cap] ∧ RSt ps.length bo cap (pRow ps []) L) ?_ ?_
  · repeat (first | ((with_reducible refine AWp.ofC ?_ ?_); (focus exact rfl); simp only [go_sem]) | ((with_reducible refine an ?_ ?_); focus exact Au))
    refine AWp.block (AWp.count 6 ps.length [5] [2, 3] (fun k vs L => ∃ v Lv V Ls, vs = [v] ∧ L.Perm (Lv ++ famL k Ls) ∧ AppSt 95 1 ((List.range k).map V) v Lv ∧ ∀ q, q < k → AppSt 4 1 (pRow ps [] q) (V q) (Ls q))
      rfl rfl ⟨anil, [], fun _ => anil, fun _ => [], rfl, .refl _, .nil, fun q hq => by omega⟩ ?_)
    rintro k vs L hk - ⟨v, Lv, V, Ls, rfl, hP, hA, hF⟩
    refine AWp.perm hP ?_
    simp only [go_sem]
    repeat (first | ((with_reducible refine AWp.ofC ?_ ?_); (focus exact rfl); simp only [go_sem]) | ((with_reducible refine an ?_ ?_); focus exact Au))
    refine ⟨fun h1 => ?_, fun h1 => ?_⟩
    · have hkp : k < ps.length := by omega
      have hel := hs.evs _ (List.getElem_mem hkp)
      have e1 : ((ps[k].evs.length : Int) + 1).toNat = nev ps k + 1 := by rw [nev_get hkp]; omega
      have hz : ab false :: List.replicate (nev ps k) (ab false) = pRow ps [] k := by rw [pRow_nil, List.replicate_succ]
      have hzl := pRow_length ps [] k
      -- the family with one row more
      have hfam : ∀ b : Nat, (famL (k + 1) (fun q => if q = k then [(b, ABlk.row 4 1 (pRow ps [] k) (nev ps k + 1))] else Ls q)).Perm ((b, .row 4 1 (pRow ps [] k) (nev ps k + 1)) :: famL k Ls) := fun b => by
        unfold famL
        rw [List.range_succ, List.flatMap_append]
        have e : (List.range k).flatMap (fun q => if q = k then [(b, ABlk.row 4 1 (pRow ps [] k) (nev ps k + 1))] else Ls q) = (List.range k).flatMap Ls :=
          flatMap_ext fun q hq => if_neg (by have := List.mem_range.1 hq; omega)
        rw [e]
        simp only [List.flatMap_cons, List.flatMap_nil, if_true]
        exact List.perm_append_comm (l₂ := [_])
      have hmap : ∀ x, (List.range k ++ [k]).map (fun q => if q = k then x else V q) = (List.range k).map V ++ [x] := fun x => by
        rw [List.map_append]
        congr 1
        · refine List.map_congr_left fun q hq => if_neg (by have := List.mem_range.1 hq; omega)
        · simp
      have hAll : ∀ b : Nat, ∀ q, q < k + 1 → AppSt 4 1 (pRow ps [] q) (if q = k then .ls b 1 0 (nev ps k + 1) (nev ps k + 1) else V q) (if q = k then [(b, ABlk.row 4 1 (pRow ps [] k) (nev ps k + 1))] else Ls q) := fun b q hq => by
        by_cases e : q = k
        · subst e
          rw [if_pos rfl, if_pos rfl]
          have := AppSt.row (t := 4) (k := 1) b (pRow ps [] q) (nev ps q + 1)
          rwa [hzl] at this
        · rw [if_neg e, if_neg e]; exact hF q (by omega)
      have hyl : ((List.range k).map V).length = k := by simp
      generalize (List.range k).map V = ys at *
      rcases hA.inv with ⟨e2, rfl, rfl⟩ | ⟨bv, cap, rfl, rfl⟩
      · repeat ((with_reducible refine an ?_ ?_); focus exact As)
        refine AWp.of ?_; simp only [go_sem, getD_map hkp, e1]
        repeat ((with_reducible refine an ?_ ?_); focus exact As)
        intro b hb b' cap' g1 g2 g3
        rw [hz]
        repeat (first | ((with_reducible refine AWp.ofC ?_ ?_); (focus exact rfl); simp only [go_sem]) | ((with_reducible refine an ?_ ?_); focus exact Au))
        refine ⟨_, List.Sublist.refl _, .ls b' 1 0 1 cap', [(b', .row 95 1 [.ls b 1 0 (nev ps k + 1) (nev ps k + 1)] cap')], _, _, rfl, List.Perm.cons _ (hfam b).symm, ?_, hAll b⟩
        rw [hmap, e2]
        exact .row _ [_] _
      · repeat ((with_reducible refine an ?_ ?_); focus exact As)
        refine AWp.of ?_; simp only [go_sem, getD_map hkp, e1]
        repeat ((with_reducible refine an ?_ ?_); focus exact As)
        intro b hb g0
        have nb : ¬ bv = b := by omega
        simp only [go_sem, nb]
        repeat ((with_reducible refine an ?_ ?_); focus exact As)
        intro b' cap' g1 g2 g3
        rw [hz]
        repeat (first | ((with_reducible refine AWp.ofC ?_ ?_); (focus exact rfl); simp only [go_sem]) | ((with_reducible refine an ?_ ?_); focus exact Au))
        refine ⟨_, List.Sublist.refl _, .ls b' 1 0 (ys.length + 1) cap', [(b', .row 95 1 (ys ++ [.ls b 1 0 (nev ps k + 1) (nev ps k + 1)]) cap')], _, _, rfl, List.Perm.cons _ (hfam b).symm, ?_, hAll b⟩
        rw [hmap]
        have := AppSt.row (t := 95) (k := 1) b' (ys ++ [.ls b 1 0 (nev ps k + 1) (nev ps k + 1)]) cap'
        simpa using this
    · have hkn : k = ps.length := by omega
      subst hkn
      rcases hA.inv with ⟨e2, rfl, rfl⟩ | ⟨bv, cap, rfl, rfl⟩
      · have h9 : ps.length = 0 := by have := congrArg List.length e2; simpa using this
        omega
      · refine ⟨_, List.Sublist.refl _, bv, cap, ?_, V, Ls, .refl _, hF⟩
        simp
  · rintro vs L - ⟨bo, cap, rfl, hR⟩
    have hdir := ref12_Directly ps hs p hp i hi
    simp only [go_sem]
    have hE := evIds_small hs
    refine AWp.cut [2, 5, 7] (fun vs L => ∃ v Lq L1, vs = [.rp 1 [aTr ps] 0 0, .ls bo 1 0 ps.length cap, v] ∧ L.Perm (Lq ++ L1) ∧ AppSt 66 2 ((dirL ps p i).map aEid) v Lq ∧ RSt ps.length bo cap (pRow ps []) L1) ?_ ?_
    · repeat ((with_reducible refine an ?_ ?_); focus exact As)
      refine AWp.of ?_; simp only [go_sem]
      refine ((hdir.val).frame (Lr := L)).mono ?_
      rintro r L' ⟨Lq, rfl, hA⟩
      have hfo := hA.fo
      simp only [go_sem, hfo]
      exact ⟨_, List.Sublist.refl _, r, Lq, L, rfl, .refl _, hA, hR⟩
    · rintro vs L' - ⟨v, Lq, L1, rfl, hP, hA, hR⟩
      refine AWp.queue hP hA fun hQ => ?_
      simp only [go_sem]
      refine AWp.seq (AWp.block (AWp.loopN [7] [2, 5] (fun m vs L => ∃ seen q v Lq L1, vs = [v] ∧ L.Perm (Lq ++ L1) ∧ QSt q v Lq ∧ RSt ps.length bo cap (pRow ps seen) L1 ∧ Psr ps ((p : Int), (i : Int) + 1) seen q ∧ m = 3 * ((evIds ps).length - seen.length) + q.length)
        (3 * ((evIds ps).length - 0) + (dirL ps p i).length) ?_ ?_))
      · exact ⟨[], _, v, Lq, L1, rfl, hP, hQ, hR, Psr.start hm hp hi, rfl⟩
      rintro m vs L - ⟨seen, q, v, Lq, L1, rfl, hP, hQ, hR, hS, rfl⟩
      -- the end, where the queue is empty
      have hend : q = [] → fo v = (True, v) → True := fun _ _ => trivial
      rcases hQ with ⟨rfl, rfl, rfl⟩ | ⟨b, off, cq, capq, xs, rfl, rfl, hxs, hl1, hl2, hl3⟩
      · simp only [go_sem]
        repeat (first | ((with_reducible refine AWp.ofC ?_ ?_); (focus exact rfl); simp only [go_sem]) | ((with_reducible refine an ?_ ?_); focus exact Au))
        intro _
        obtain ⟨V, Ls, hPr, hF⟩ := hR
        have hP2 := hP.trans (List.Perm.append_left _ hPr)
        obtain ⟨Lx, hLx⟩ : ∃ Lx : AHeap, Lx = [] := ⟨_, rfl⟩
        rw [← hLx] at hP2
        refine AWp.nodup fun hnd => ?_
        have hP3 : L.Perm (famL ps.length Ls ++ ((bo, .row 95 1 ((List.range ps.length).map V) cap) :: Lx)) := hP2.trans ((List.perm_append_comm (l₁ := Lx)).trans ((List.perm_append_comm (l₁ := [_])).append_right _ |>.trans (by rw [List.append_assoc]; exact .refl _)))
        have hnd' : ((famL ps.length Ls).map (·.1)).Nodup := by
          have := (hP3.map (·.1)).nodup_iff.1 hnd
          rw [List.map_append, List.nodup_append] at this
          exact this.1
        refine AWp.viewP hP3 (.row (fam_views hnd' hF) (LVw.none _)) [] (by simp) ?_
        simp only [go_sem]
        repeat (first | ((with_reducible refine AWp.ofC ?_ ?_); (focus exact rfl); simp only [go_sem]) | ((with_reducible refine an ?_ ?_); focus exact Au))
        refine ret_view [true] ?_; simp only [go_sem]
        rw [← pastA_of hS]
        exact Vw.ofLs (t := 95) (cap := cap) (if_pos rfl) (by simp)
      · cases q with
        | nil =>
          simp only [go_sem]
          repeat (first | ((with_reducible refine AWp.ofC ?_ ?_); (focus exact rfl); simp only [go_sem]) | ((with_reducible refine an ?_ ?_); focus exact Au))
          intro _
          obtain ⟨V, Ls, hPr, hF⟩ := hR
          have hP2 := hP.trans (List.Perm.append_left _ hPr)
          obtain ⟨Lx, hLx⟩ : ∃ Lx : AHeap, Lx = [(b, .row 66 2 xs capq)] := ⟨_, rfl⟩
          rw [← hLx] at hP2
          refine AWp.nodup fun hnd => ?_
          have hP3 : L.Perm (famL ps.length Ls ++ ((bo, .row 95 1 ((List.range ps.length).map V) cap) :: Lx)) := hP2.trans ((List.perm_append_comm (l₁ := Lx)).trans ((List.perm_append_comm (l₁ := [_])).append_right _ |>.trans (by rw [List.append_assoc]; exact .refl _)))
          have hnd' : ((famL ps.length Ls).map (·.1)).Nodup := by
            have := (hP3.map (·.1)).nodup_iff.1 hnd
            rw [List.map_append, List.nodup_append] at this
            exact this.1
          refine AWp.viewP hP3 (.row (fam_views hnd' hF) (LVw.none _)) [] (by simp) ?_
          simp only [go_sem]
          repeat (first | ((with_reducible refine AWp.ofC ?_ ?_); (focus exact rfl); simp only [go_sem]) | ((with_reducible refine an ?_ ?_); focus exact Au))
          refine ret_view [true] ?_; simp only [go_sem]
          rw [← pastA_of hS]
          exact Vw.ofLs (t := 95) (cap := cap) (if_pos rfl) (by simp)
        | cons y q' =>
          simp only [List.length_cons, List.map_cons] at hxs hl1 hl2
          obtain ⟨hg0, htl⟩ := queue_tail hxs
          have hsz := hS.size
          have hsm := hS.small
          simp only [List.length_cons] at hsz
          obtain ⟨⟨py, hpy, iy, hiy, rfl⟩, hreach⟩ := hS.qv y List.mem_cons_self
          have hnv := nev_get hpy
          have hely := hs.evs _ (List.getElem_mem hpy)
          obtain ⟨V, br, cp, X, hPr, hVr, hcl⟩ := hR.open hpy (by rw [pRow_length]; omega)
          refine AWp.perm (hP.trans (hPr.cons _)) (AWp.nodup fun hnd => ?_)
          obtain ⟨⟨m1, m2⟩, ⟨m3, m4⟩, ⟨m5, m6⟩, _⟩ := nd3 hnd
          have hgV : ((List.range ps.length).map V).getD py .any = .ls br 1 0 (nev ps py + 1) cp := by rw [map_range_getD hpy, hVr, pRow_length]
          have hgr : (pRow ps seen py).getD ((iy : Int) + 1).toNat .any = ab (decide (((py : Int), (iy : Int) + 1) ∈ seen)) := by
            have e : ((iy : Int) + 1).toNat = iy + 1 := by omega
            rw [e, pRow_get (by omega)]; simp
          have hrl := pRow_length ps seen py
          simp only [go_sem]
          repeat (first | ((with_reducible refine AWp.ofC ?_ ?_); (focus exact rfl); simp only [go_sem]) | ((with_reducible refine an ?_ ?_); focus exact Au))
          refine ⟨fun _ => ?_, fun h => (by exfalso; omega)⟩
          repeat (first | ((with_reducible refine AWp.ofC ?_ ?_); (focus exact rfl); simp only [go_sem, hg0]) | ((with_reducible refine an ?_ ?_); focus exact Au))
          repeat ((with_reducible refine an ?_ ?_); focus exact As)
          intro b8 h8 h9 h10 h11
          repeat (first | ((with_reducible refine AWp.ofC ?_ ?_); (focus exact rfl); simp only [go_sem]) | ((with_reducible refine an ?_ ?_); focus exact Au))
          refine AWp.seq (AWp.seq ?_)
          repeat (first | (with_reducible refine AWp.seq ?_) | (with_reducible refine AWp.block ?_))
          refine AWp.mix mixed [0, 1, 2, 3, 5, 6] (.step 4 (.step 7 (.step 8 .done .done) .done) .done) (by kernel_rfl) ?_; simp only [go_sem, m2, m4, m5, m6, hgV, hgr, hrl, List.length_range]
          repeat ((with_reducible refine an ?_ ?_); focus exact As)
          repeat (first | ((with_reducible refine AWp.ofC ?_ ?_); (focus exact rfl); simp only [go_sem]) | ((with_reducible refine an ?_ ?_); focus exact Au))
          refine ⟨fun h1 => ?_, fun h1 => ?_⟩
          · repeat (first | ((with_reducible refine AWp.ofC ?_ ?_); (focus exact rfl); simp only [go_sem]) | ((with_reducible refine an ?_ ?_); focus exact Au))
            refine ⟨_, List.Sublist.refl _, 3 * ((evIds ps).length - seen.length) + q'.length, by omega, seen, q', _, [(b, .row 66 2 xs capq)], (bo, .row 95 1 ((List.range ps.length).map V) cap) :: (br, .row 4 1 (pRow ps seen py) cp) :: X, rfl, .refl _, ?_, hR.perm hPr.symm, hS.skip h1, rfl⟩
            exact .inr ⟨b, off + 1, cq - 1, capq, xs, by rw [Nat.add_sub_cancel], rfl, htl, by omega, by omega, by omega⟩
          · have hset : (pRow ps seen py).set ((iy : Int) + 1).toNat (ab true) = pRow ps (((py : Int), (iy : Int) + 1) :: seen) py := by
              have e : ((iy : Int) + 1).toNat = iy + 1 := by omega
              rw [e]; exact pRow_set
            have hR2 : RSt ps.length bo cap (pRow ps (((py : Int), (iy : Int) + 1) :: seen)) ((bo, .row 95 1 ((List.range ps.length).map V) cap) :: (br, .row 4 1 (pRow ps (((py : Int), (iy : Int) + 1) :: seen) py) cp) :: X) :=
              hcl _ _ (fun q hq => pRow_other (k := iy + 1) hq) (by rw [pRow_length, pRow_length]) (.refl _)
            have hmk := Psr.mark hm hpy hiy hS h1
            have hdir2 := ref12_Directly ps hs py hpy iy hiy
            have hd2 := dirL_length ps py iy
            have hms := hmk.small
            simp only [List.length_cons] at hms
            refine AWp.seq ?_
            repeat (first | (with_reducible refine AWp.seq ?_) | (with_reducible refine AWp.block ?_))
            refine AWp.mix mixed [0, 1, 2, 3, 5, 6] (.step 4 (.step 7 (.step 8 .done .done) .done) .done) (by kernel_rfl) ?_; simp only [go_sem, m2, m4, m5, m6, hgV, hgr, hrl, List.length_range]
            repeat ((with_reducible refine an ?_ ?_); focus exact As)
            rw [hset]
            generalize dirL ps py iy = dl at *
            obtain ⟨LR, hLR⟩ : ∃ LR : AHeap, LR = (bo, .row 95 1 ((List.range ps.length).map V) cap) :: (br, .row 4 1 (pRow ps (((py : Int), (iy : Int) + 1) :: seen) py) cp) :: X := ⟨_, rfl⟩
            rw [← hLR] at hR2 ⊢
            repeat (first | ((with_reducible refine AWp.ofC ?_ ?_); (focus exact rfl); simp only [go_sem]) | ((with_reducible refine an ?_ ?_); focus exact Au))
            refine ((hdir2.val).frame (Lr := (b, .row 66 2 xs capq) :: LR)).mono ?_
            rintro r L' ⟨Ln, rfl, hAn⟩
            have hfo := hAn.fo
            simp only [go_sem, hfo]
            refine AWp.viewP (Lf := Ln) (Lk := (b, .row 66 2 xs capq) :: LR) (.refl _) (LVw.refl _) [(9, .sl 2 (dl.map aEid))] ?_ ?_
            · intro q hq
              simp only [List.mem_singleton] at hq
              subst hq
              have := hAn.vw []
              rw [List.append_nil] at this
              show Vw Ln _ (.sl 2 (dl.map aEid))
              simpa only [get, if_true] using this
            simp only [go_sem]
            repeat (first | ((with_reducible refine AWp.ofC ?_ ?_); (focus exact rfl); simp only [go_sem]) | ((with_reducible refine an ?_ ?_); focus exact Au))
            refine AWp.block (AWp.count 10 dl.length [7] [2, 5, 9] (fun j vs L => ∃ v Lq L1, vs = [v] ∧ L.Perm (Lq ++ L1) ∧ QSt (q' ++ dl.take j) v Lq ∧ RSt ps.length bo cap (pRow ps (((py : Int), (iy : Int) + 1) :: seen)) L1) rfl rfl ?_ ?_)
            · refine ⟨_, [(b, .row 66 2 xs capq)], LR, rfl, .refl _, ?_, hR2⟩
              rw [List.take_zero, List.append_nil]
              exact .inr ⟨b, off + 1, cq - 1, capq, xs, rfl, rfl, htl, by omega, by omega, by omega⟩
            rintro j vs L hj - ⟨w, Lw, L2, rfl, hPw, hQw, hRw⟩
            refine AWp.perm hPw ?_
            simp only [go_sem]
            repeat (first | ((with_reducible refine AWp.ofC ?_ ?_); (focus exact rfl); simp only [go_sem]) | ((with_reducible refine an ?_ ?_); focus exact Au))
            refine ⟨fun h2 => ?_, fun h2 => ?_⟩
            · have hjd : j < dl.length := by omega
              have hgj := getD_map (f := aEid) hjd
              have hsu : q' ++ dl.take (j + 1) = (q' ++ dl.take j) ++ [dl[j]] := by rw [List.take_succ_eq_append_getElem hjd, List.append_assoc]
              have hql : (q' ++ dl.take j).length ≤ q'.length + 2 := by rw [List.length_append, List.length_take]; omega
              obtain ⟨qq, hqq⟩ : ∃ qq, q' ++ dl.take j = qq := ⟨_, rfl⟩
              rw [hqq] at hQw hsu hql
              generalize dl[j] = z at *
              rcases hQw with ⟨rfl, rfl, rfl⟩ | ⟨bw, ow, cw, capw, ys, rfl, rfl, hys, y1, y2, y3⟩
              · repeat ((with_reducible refine an ?_ ?_); focus exact As)
                refine AWp.of ?_; simp only [go_sem, hgj]
                repeat ((with_reducible refine an ?_ ?_); focus exact As)
                intro b' cap' g1 g2
                repeat (first | ((with_reducible refine AWp.ofC ?_ ?_); (focus exact rfl); simp only [go_sem]) | ((with_reducible refine an ?_ ?_); focus exact Au))
                refine ⟨_, List.Sublist.refl _, .ls b' 2 0 1 cap', [(b', .row 66 2 [aEid z] cap')], L2, rfl, .refl _, .inr ⟨b', 0, cap', cap', [aEid z], by rw [hsu]; rfl, rfl, by rw [hsu]; simp, by rw [hsu]; simp, by rw [hsu]; simpa using g2, by omega⟩, hRw⟩
              · have hzl : (qq ++ [z]).length = qq.length + 1 := by simp
                cases ow with
                | zero =>
                  simp only [Nat.zero_add] at y3 y1
                  subst y3
                  rw [List.drop_zero] at hys
                  repeat ((with_reducible refine an ?_ ?_); focus exact As)
                  refine AWp.of ?_; simp only [go_sem, hgj]
                  repeat ((with_reducible refine an ?_ ?_); focus exact As)
                  intro b' cap' g1 g2
                  repeat (first | ((with_reducible refine AWp.ofC ?_ ?_); (focus exact rfl); simp only [go_sem]) | ((with_reducible refine an ?_ ?_); focus exact Au))
                  refine ⟨_, List.Sublist.refl _, .ls b' 2 0 (qq.length + 1) cap', [(b', .row 66 2 (ys.take qq.length ++ [aEid z]) cap')], L2, rfl, .refl _, .inr ⟨b', 0, cap', cap', _, by rw [hsu, hzl], rfl, ?_, ?_, by rw [hsu, hzl]; exact g2, by omega⟩, hRw⟩
                  · rw [hsu, hys, List.drop_zero, List.take_of_length_le (by simp)]; simp
                  · rw [hsu, hys]; simp
                | succ ow =>
                  repeat ((with_reducible refine an ?_ ?_); focus exact As)
                  refine AWp.of ?_; simp only [go_sem, hgj]
                  repeat ((with_reducible refine an ?_ ?_); focus exact As)
                  refine ⟨fun g2 => ?_, fun b' cap' g1 g2 => ?_⟩
                  · repeat (first | ((with_reducible refine AWp.ofC ?_ ?_); (focus exact rfl); simp only [go_sem]) | ((with_reducible refine an ?_ ?_); focus exact Au))
                    refine ⟨_, List.Sublist.refl _, .ls bw 2 (ow + 1) (qq.length + 1) cw, [(bw, .row 66 2 (ys.take (ow + 1 + qq.length) ++ [aEid z]) capw)], L2, rfl, .refl _, .inr ⟨bw, ow + 1, cw, capw, _, by rw [hsu, hzl], rfl, ?_, ?_, by rw [hsu, hzl]; exact g2, y3⟩, hRw⟩
                    · have hd : (ys.take (ow + 1 + qq.length)).drop (ow + 1) = qq.map aEid := by
                        rw [List.drop_take, Nat.add_sub_cancel_left]; exact hys
                      rw [hsu, List.drop_append_of_le_length (by rw [List.length_take]; omega), hd, List.take_of_length_le (by simp)]; simp
                    · rw [hsu, hzl, List.length_append, List.length_take]; simp only [List.length_cons, List.length_nil]; omega
                  · intro g3
                    repeat (first | ((with_reducible refine AWp.ofC ?_ ?_); (focus exact rfl); simp only [go_sem]) | ((with_reducible refine an ?_ ?_); focus exact Au))
                    refine ⟨_, List.Sublist.refl _, .ls b' 2 0 (qq.length + 1) cap', [(b', .row 66 2 ((ys.drop (ow + 1)).take qq.length ++ [aEid z]) cap')], L2, rfl, .refl _, .inr ⟨b', 0, cap', cap', _, by rw [hsu, hzl], rfl, ?_, ?_, by rw [hsu, hzl]; omega, by omega⟩, hRw⟩
                    · rw [hsu, hys, List.drop_zero, List.take_of_length_le (by simp)]; simp
                    · rw [hsu, hys]; simp
            · repeat (first | ((with_reducible refine AWp.ofC ?_ ?_); (focus exact rfl); simp only [go_sem]) | ((with_reducible refine an ?_ ?_); focus exact Au))
              refine ⟨_, List.Sublist.refl _, 3 * ((evIds ps).length - (seen.length + 1)) + (q' ++ dl).length, ?_, _, _, w, Lw, L2, rfl, .refl _, ?_, hRw, hmk, by simp⟩
              · rw [List.length_append]; omega
              · rwa [List.take_of_length_le (by omega)] at hQw
end Go.AL
end
section
/- The reference of layer 12, last part: Fault and Valid. No condition. -/
namespace Go.AL
open Go Go.RowKit
set_option maxRecDepth 4000
theorem pairF_zero {ps : List Pr} (h : ∀ p (hp : p < ps.length) i (_hi : i < ps[p].evs.length), pairF ps (off ps p + i) = 0) : msgF ps = none := by
  refine msgF_none fun k hk => ?_
  obtain ⟨p, hp, i, hi, e, _⟩ := evIds_inv (List.getElem?_eq_getElem hk)
  rw [e]; exact h p hp i hi
/-- Nothing at fault among the events ahead of a place. -/
def Ahead (ps : List Pr) (f : Nat → Nat → Prop) (p i : Nat) : Prop := (∀ q (hq : q < ps.length) j, q < p → j < ps[q].evs.length → f q j) ∧ ∀ j, j < i → f p j
theorem Ahead.next {ps : List Pr} {f : Nat → Nat → Prop} {p i : Nat} (h : Ahead ps f p i) (hf : f p i) : Ahead ps f p (i + 1) :=
  ⟨h.1, fun j hj => by
    by_cases e : j = i
    · rw [e]; exact hf
    · exact h.2 j (by omega)⟩
theorem Ahead.row {ps : List Pr} {f : Nat → Nat → Prop} {p : Nat} (hp : p < ps.length) (h : Ahead ps f p ps[p].evs.length) : Ahead ps f (p + 1) 0 :=
  ⟨fun q hq j hqp hj => by
    by_cases e : q = p
    · subst e; exact h.2 j hj
    · exact h.1 q hq j (by omega) hj, fun j hj => by omega⟩
theorem Ahead.idx {ps : List Pr} {f : Nat → Nat → Prop} {p i : Nat} (hp : p < ps.length) (hi : i ≤ ps[p].evs.length) (h : Ahead ps f p i) {q j : Nat} (hq : q < ps.length) (hj : j < ps[q].evs.length) (hlt : off ps q + j < off ps p + i) : f q j := by
  have mono : ∀ a b, a ≤ b → b ≤ ps.length → off ps a ≤ off ps b := by
    intro a b hab hb
    induction b with
    | zero => have : a = 0 := by omega
              subst this; exact Nat.le_refl _
    | succ b ih =>
      by_cases e : a = b + 1
      · subst e; exact Nat.le_refl _
      · have := ih (by omega) (by omega)
        rw [off_succ (by omega)]; omega
  by_cases h1 : q < p
  · exact h.1 q hq j h1 hj
  · by_cases h2 : q = p
    · subst h2; exact h.2 j (by omega)
    · have h3 := mono (p + 1) q (by omega) (by omega)
      rw [off_succ hp] at h3
      omega
open Classical in
noncomputable def pastR (ps : List Pr) (x : Eid) (p : Nat) : List AV := (List.range (nev ps p + 1)).map fun (k : Nat) => ab (decide (VEv ps ((p : Int), (k : Int)) ∧ Reach ps ((p : Int), (k : Int)) x))
theorem pastA_eq (ps : List Pr) (x : Eid) : pastA ps x = .sl 1 ((List.range ps.length).map fun p => .sl 1 (pastR ps x p)) := rfl
open Classical in
theorem pastR_get {ps : List Pr} (x : Eid) {p : Nat} (hp : p < ps.length) {i : Nat} (hi : i < ps[p].evs.length) : (pastR ps x p).getD ((i : Int) + 1).toNat .any = ab (decide (Reach ps ((p : Int), (i : Int) + 1) x)) := by
  have e : ((i : Int) + 1).toNat = i + 1 := by omega
  unfold pastR
  rw [e, map_range_getD (by rw [nev_get hp]; omega)]
  have hc : (((i + 1 : Nat) : Int)) = (i : Int) + 1 := rfl
  rw [hc]
  have hv : VEv ps ((p : Int), (i : Int) + 1) := ⟨p, hp, i, hi, rfl⟩
  congr 2
  exact propext ⟨fun h => h.2, fun h => ⟨hv, h⟩⟩
theorem ref12_Fault (ps : List Pr) (hs : Sm ps) : PC Go.Proofs.Tryz.prog 53 [aTr ps] (aFault (faultF ps)) := by
  have hl := hs.procs
  refine PC.enter 137 [.cell 2 66, .tmp 3] [1, 11, 15] Go.Proofs.Tryz.func53 rfl rfl rfl rfl rfl (by simp) (AWp.of ?_); simp only [go_sem]
  intro b2
  repeat (first | ((with_reducible refine AWp.ofC ?_ ?_); (focus exact rfl); simp only [go_sem]) | ((with_reducible refine an ?_ ?_); focus exact Au))
  repeat (first | ((with_reducible refine AWp.ofC ?_ ?_); (focus exact rfl); simp only [go_sem]) | ((with_reducible refine an ?_ ?_); focus exact Au))
  refine ⟨fun h1 => ?_, fun h1 => ?_⟩
  · repeat (first | ((with_reducible refine AWp.ofC ?_ ?_); (focus exact rfl); simp only [go_sem]) | ((with_reducible refine an ?_ ?_); focus exact Au))
    have hf : faultF ps = ((0, 0), 1) := by
      unfold faultF
      rw [if_pos]
      unfold inI
      rw [Bool.not_eq_true', ← Bool.not_eq_true, Bool.and_eq_true, decide_eq_true_eq, decide_eq_true_eq]
      omega
    rw [hf]
    refine ret_eq ?_
    simp only [go_sem]
  · intro h1'
    have hin : ¬ ((!inI ps.length 1 8) = true) := by
      unfold inI
      rw [Bool.not_eq_true', ← Bool.not_eq_true, Bool.and_eq_true, decide_eq_true_eq, decide_eq_true_eq]
      omega
    repeat (first | ((with_reducible refine AWp.ofC ?_ ?_); (focus exact rfl); simp only [go_sem]) | ((with_reducible refine an ?_ ?_); focus exact Au))
    refine AWp.block (AWp.count 4 ps.length [] [1, 2] (fun k vs L => L = [(b2, .row 66 2 [aEid (0, 0)] 1)] ∧ ∀ j, j < k → procF ps j = 0) rfl rfl ⟨by simp [aEid], by omega⟩ ?_)
    rintro k vs L hk - ⟨rfl, hI⟩
    simp only [go_sem]
    repeat (first | ((with_reducible refine AWp.ofC ?_ ?_); (focus exact rfl); simp only [go_sem]) | ((with_reducible refine an ?_ ?_); focus exact Au))
    refine ⟨fun h2 => ?_, fun h2 => ?_⟩
    · have hkp : k < ps.length := by omega
      repeat (first | ((with_reducible refine AWp.ofC ?_ ?_); (focus exact rfl); simp only [go_sem]) | ((with_reducible refine an ?_ ?_); focus exact Au))
      repeat ((with_reducible refine an ?_ ?_); focus exact As)
      refine (ref12_head ps hs k hkp).val.use ?_; simp only [go_sem]
      repeat (first | ((with_reducible refine AWp.ofC ?_ ?_); (focus exact rfl); simp only [go_sem]) | ((with_reducible refine an ?_ ?_); focus exact Au))
      refine ⟨fun h3 => ?_, fun h3 => ?_⟩
      · repeat (first | ((with_reducible refine AWp.ofC ?_ ?_); (focus exact rfl); simp only [go_sem]) | ((with_reducible refine an ?_ ?_); focus exact Au))
        have hf : faultF ps = (((k : Int), 0), procF ps k) := by unfold faultF; rw [if_neg hin, procFirst_hit hkp hI h3]
        rw [hf]
        refine ret_eq ?_
        simp only [go_sem]
      · repeat (first | ((with_reducible refine AWp.ofC ?_ ?_); (focus exact rfl); simp only [go_sem]) | ((with_reducible refine an ?_ ?_); focus exact Au))
        refine ⟨_, List.Sublist.refl _, rfl, fun j hj => ?_⟩
        by_cases e : j = k
        · rw [e]; exact h3
        · exact hI j (by omega)
    · have hpf := procFirst_none (ps := ps) fun j hj => hI j (by omega)
      repeat (first | ((with_reducible refine AWp.ofC ?_ ?_); (focus exact rfl); simp only [go_sem]) | ((with_reducible refine an ?_ ?_); focus exact Au))
      refine AWp.block (AWp.count 6 ps.length [] [1, 2] (fun p vs L => L = [(b2, .row 66 2 [aEid (0, 0)] 1)] ∧ Ahead ps (fun q j => evF ps q j = 0) p 0) rfl rfl ⟨by simp [aEid], fun _ _ _ h => by omega, fun j hj => by omega⟩ ?_)
      rintro p vs L hp - ⟨rfl, hA⟩
      simp only [go_sem]
      repeat (first | ((with_reducible refine AWp.ofC ?_ ?_); (focus exact rfl); simp only [go_sem]) | ((with_reducible refine an ?_ ?_); focus exact Au))
      refine ⟨fun h4 => ?_, fun h4 => ?_⟩
      · have hpp : p < ps.length := by omega
        have hgP := getD_map (f := aPr) hpp
        have hel := hs.evs _ (List.getElem_mem hpp)
        repeat (first | ((with_reducible refine AWp.ofC ?_ ?_); (focus exact rfl); simp only [go_sem]) | ((with_reducible refine an ?_ ?_); focus exact Au))
        refine AWp.block (AWp.count 7 ps[p].evs.length [] [1, 2, 6] (fun i vs L => L = [(b2, .row 66 2 [aEid (0, 0)] 1)] ∧ Ahead ps (fun q j => evF ps q j = 0) p i) rfl rfl ⟨by simp [aEid], hA⟩ ?_)
        rintro i vs L hi - ⟨rfl, hB⟩
        simp only [go_sem]
        repeat (first | ((with_reducible refine AWp.ofC ?_ ?_); (focus exact rfl); simp only [go_sem, hgP]) | ((with_reducible refine an ?_ ?_); focus exact Au))
        refine ⟨fun h5 => ?_, fun h5 => ?_⟩
        · have hie : i < ps[p].evs.length := by omega
          repeat (first | ((with_reducible refine AWp.ofC ?_ ?_); (focus exact rfl); simp only [go_sem]) | ((with_reducible refine an ?_ ?_); focus exact Au))
          repeat ((with_reducible refine an ?_ ?_); focus exact As)
          refine (ref12_form ps hs p hpp i hie).val.use ?_; simp only [go_sem]
          repeat (first | ((with_reducible refine AWp.ofC ?_ ?_); (focus exact rfl); simp only [go_sem]) | ((with_reducible refine an ?_ ?_); focus exact Au))
          refine ⟨fun h6 => ?_, fun h6 => ?_⟩
          · repeat (first | ((with_reducible refine AWp.ofC ?_ ?_); (focus exact rfl); simp only [go_sem]) | ((with_reducible refine an ?_ ?_); focus exact Au))
            have hat : evAt ps ((p : Int), (i : Int) + 1) = evF ps p i := by simp only [evAt, Int.toNat_natCast, show ((i : Int) + 1 - 1).toNat = i by omega]
            have hhit := evFirst_hit (evIds_get hpp hie) (fun j y hj hy => by
              obtain ⟨q, hq, r, hr, e, rfl⟩ := evIds_inv hy
              have := hB.idx hpp (by omega) hq hr (by omega)
              simpa only [evAt, Int.toNat_natCast, show ((r : Int) + 1 - 1).toNat = r by omega] using this) (by rw [hat]; exact h6)
            have hf : faultF ps = (((p : Int), (i : Int) + 1), evF ps p i) := by unfold faultF; rw [if_neg hin, hpf, hhit, hat]
            rw [hf]
            refine ret_eq ?_
            simp only [go_sem]
          · repeat (first | ((with_reducible refine AWp.ofC ?_ ?_); (focus exact rfl); simp only [go_sem]) | ((with_reducible refine an ?_ ?_); focus exact Au))
            exact ⟨_, List.Sublist.refl _, rfl, hB.next h6⟩
        · have e : i = ps[p].evs.length := by omega
          rw [e] at hB
          repeat (first | ((with_reducible refine AWp.ofC ?_ ?_); (focus exact rfl); simp only [go_sem]) | ((with_reducible refine an ?_ ?_); focus exact Au))
          exact ⟨_, List.Sublist.refl _, rfl, hB.row hpp⟩
      · have hpn : p = ps.length := by omega
        have hef : evFirst ps = none := evFirst_none fun j y hy => by
          obtain ⟨q, hq, r, hr, e, rfl⟩ := evIds_inv hy
          have := hA.1 q hq r (by omega) hr
          simpa only [evAt, Int.toNat_natCast, show ((r : Int) + 1 - 1).toNat = r by omega] using this
        have hfm := formed_of_evFirst hef
        clear hA
        repeat (first | ((with_reducible refine AWp.ofC ?_ ?_); (focus exact rfl); simp only [go_sem]) | ((with_reducible refine an ?_ ?_); focus exact Au))
        refine AWp.block (AWp.count 9 ps.length [] [1, 2] (fun p vs L => L = [(b2, .row 66 2 [aEid (0, 0)] 1)] ∧ Ahead ps (fun q j => pairF ps (off ps q + j) = 0) p 0) rfl rfl ⟨by simp [aEid], fun _ _ _ h => by omega, fun j hj => by omega⟩ ?_)
        rintro p vs L hp - ⟨rfl, hA⟩
        simp only [go_sem]
        repeat (first | ((with_reducible refine AWp.ofC ?_ ?_); (focus exact rfl); simp only [go_sem]) | ((with_reducible refine an ?_ ?_); focus exact Au))
        refine ⟨fun h4 => ?_, fun h4 => ?_⟩
        · have hpp : p < ps.length := by omega
          have hgP := getD_map (f := aPr) hpp
          have hel := hs.evs _ (List.getElem_mem hpp)
          repeat (first | ((with_reducible refine AWp.ofC ?_ ?_); (focus exact rfl); simp only [go_sem]) | ((with_reducible refine an ?_ ?_); focus exact Au))
          refine AWp.block (AWp.count 10 ps[p].evs.length [] [1, 2, 9] (fun i vs L => L = [(b2, .row 66 2 [aEid (0, 0)] 1)] ∧ Ahead ps (fun q j => pairF ps (off ps q + j) = 0) p i) rfl rfl ⟨by simp [aEid], hA⟩ ?_)
          rintro i vs L hi - ⟨rfl, hB⟩
          simp only [go_sem]
          repeat (first | ((with_reducible refine AWp.ofC ?_ ?_); (focus exact rfl); simp only [go_sem, hgP]) | ((with_reducible refine an ?_ ?_); focus exact Au))
          refine ⟨fun h5 => ?_, fun h5 => ?_⟩
          · have hie : i < ps[p].evs.length := by omega
            repeat (first | ((with_reducible refine AWp.ofC ?_ ?_); (focus exact rfl); simp only [go_sem]) | ((with_reducible refine an ?_ ?_); focus exact Au))
            intro b11 _
            repeat (first | ((with_reducible refine AWp.ofC ?_ ?_); (focus exact rfl); simp only [go_sem]) | ((with_reducible refine an ?_ ?_); focus exact Au))
            repeat ((with_reducible refine an ?_ ?_); focus exact As)
            refine (ref12_paired ps hs hfm p hpp i hie).val.use ?_; simp only [go_sem]
            repeat (first | ((with_reducible refine AWp.ofC ?_ ?_); (focus exact rfl); simp only [go_sem]) | ((with_reducible refine an ?_ ?_); focus exact Au))
            refine ⟨fun h6 => ?_, fun h6 => ?_⟩
            · repeat (first | ((with_reducible refine AWp.ofC ?_ ?_); (focus exact rfl); simp only [go_sem]) | ((with_reducible refine an ?_ ?_); focus exact Au))
              have hhit := msgF_hit (evIds_get hpp hie) (fun j hj => by
                have hjl : j < (evIds ps).length := by have := (List.getElem?_eq_some_iff.1 (evIds_get hpp hie)).1; omega
                obtain ⟨q, hq, r, hr, e, _⟩ := evIds_inv (List.getElem?_eq_getElem hjl)
                rw [e]; exact hB.idx hpp (by omega) hq hr (by omega)) h6
              have hf : faultF ps = (((p : Int), (i : Int) + 1), pairF ps (off ps p + i)) := by unfold faultF; rw [if_neg hin, hpf, hef, hhit]
              rw [hf]
              refine ret_eq ?_
              simp only [go_sem]
            · repeat (first | ((with_reducible refine AWp.ofC ?_ ?_); (focus exact rfl); simp only [go_sem]) | ((with_reducible refine an ?_ ?_); focus exact Au))
              exact ⟨_, List.Sublist.refl _, rfl, hB.next h6⟩
          · have e : i = ps[p].evs.length := by omega
            rw [e] at hB
            repeat (first | ((with_reducible refine AWp.ofC ?_ ?_); (focus exact rfl); simp only [go_sem]) | ((with_reducible refine an ?_ ?_); focus exact Au))
            exact ⟨_, List.Sublist.refl _, rfl, hB.row hpp⟩
        · have hmf : msgF ps = none := pairF_zero fun q hq r hr => hA.1 q hq r (by omega) hr
          clear hA
          have hn1 : 1 ≤ ps.length := by omega
          repeat (first | ((with_reducible refine AWp.ofC ?_ ?_); (focus exact rfl); simp only [go_sem]) | ((with_reducible refine an ?_ ?_); focus exact Au))
          repeat ((with_reducible refine an ?_ ?_); focus exact As)
          refine (ref12_acyclic ps hs hmf hn1).val.use ?_; simp only [go_sem]
          repeat (first | ((with_reducible refine AWp.ofC ?_ ?_); (focus exact rfl); simp only [go_sem]) | ((with_reducible refine an ?_ ?_); focus exact Au))
          refine ⟨fun h7 => ?_, fun h7 => ?_⟩
          · repeat (first | ((with_reducible refine AWp.ofC ?_ ?_); (focus exact rfl); simp only [go_sem]) | ((with_reducible refine an ?_ ?_); focus exact Au))
            have hf : faultF ps = ((0, 0), 0) := by unfold faultF; rw [if_neg hin, hpf, hef, hmf, acyB_cyc hs hmf h7]
            rw [hf]
            refine ret_eq ?_
            simp only [go_sem]
          · repeat (first | ((with_reducible refine AWp.ofC ?_ ?_); (focus exact rfl); simp only [go_sem]) | ((with_reducible refine an ?_ ?_); focus exact Au))
            refine AWp.block (AWp.count 13 ps.length [] [1, 2] (fun p vs L => L = [(b2, .row 66 2 [aEid (0, 0)] 1)] ∧ Ahead ps (fun q j => ¬ Reach ps ((q : Int), (j : Int) + 1) ((q : Int), (j : Int) + 1)) p 0) rfl rfl ⟨by simp [aEid], fun _ _ _ h => by omega, fun j hj => by omega⟩ ?_)
            rintro p vs L hp - ⟨rfl, hA⟩
            simp only [go_sem]
            repeat (first | ((with_reducible refine AWp.ofC ?_ ?_); (focus exact rfl); simp only [go_sem]) | ((with_reducible refine an ?_ ?_); focus exact Au))
            refine ⟨fun h4 => ?_, fun h4 => ?_⟩
            · have hpp : p < ps.length := by omega
              have hgP := getD_map (f := aPr) hpp
              have hel := hs.evs _ (List.getElem_mem hpp)
              repeat (first | ((with_reducible refine AWp.ofC ?_ ?_); (focus exact rfl); simp only [go_sem]) | ((with_reducible refine an ?_ ?_); focus exact Au))
              refine AWp.block (AWp.count 14 ps[p].evs.length [] [1, 2, 13] (fun i vs L => L = [(b2, .row 66 2 [aEid (0, 0)] 1)] ∧ Ahead ps (fun q j => ¬ Reach ps ((q : Int), (j : Int) + 1) ((q : Int), (j : Int) + 1)) p i) rfl rfl ⟨by simp [aEid], hA⟩ ?_)
              rintro i vs L hi - ⟨rfl, hB⟩
              simp only [go_sem]
              repeat (first | ((with_reducible refine AWp.ofC ?_ ?_); (focus exact rfl); simp only [go_sem, hgP]) | ((with_reducible refine an ?_ ?_); focus exact Au))
              refine ⟨fun h5 => ?_, fun h5 => ?_⟩
              · have hie : i < ps[p].evs.length := by omega
                have hpast := ref12_Past ps hs hmf hn1 p hpp i hie
                rw [pastA_eq] at hpast
                have hg1 : ((List.range ps.length).map fun q => AV.sl 1 (pastR ps ((p : Int), (i : Int) + 1) q)).getD p .any = .sl 1 (pastR ps ((p : Int), (i : Int) + 1) p) := map_range_getD hpp _
                have hg2 := pastR_get ((p : Int), (i : Int) + 1) hpp hie
                have hgl : (pastR ps ((p : Int), (i : Int) + 1) p).length = ps[p].evs.length + 1 := by unfold pastR; rw [List.length_map, List.length_range, nev_get hpp]
                repeat (first | ((with_reducible refine AWp.ofC ?_ ?_); (focus exact rfl); simp only [go_sem]) | ((with_reducible refine an ?_ ?_); focus exact Au))
                intro b15 _
                repeat (first | ((with_reducible refine AWp.ofC ?_ ?_); (focus exact rfl); simp only [go_sem]) | ((with_reducible refine an ?_ ?_); focus exact Au))
                repeat ((with_reducible refine an ?_ ?_); focus exact As)
                refine (hpast).val.use ?_; simp only [go_sem, hg1, hg2, hgl, List.length_range]
                repeat ((with_reducible refine an ?_ ?_); focus exact As)
                repeat (first | ((with_reducible refine AWp.ofC ?_ ?_); (focus exact rfl); simp only [go_sem]) | ((with_reducible refine an ?_ ?_); focus exact Au))
                refine ⟨fun h6 => ?_, fun h6 => ?_⟩
                · repeat (first | ((with_reducible refine AWp.ofC ?_ ?_); (focus exact rfl); simp only [go_sem]) | ((with_reducible refine an ?_ ?_); focus exact Au))
                  have hhit := cycF_hit (evIds_get hpp hie) (fun j y hj hy => by
                    obtain ⟨q, hq, r, hr, e, rfl⟩ := evIds_inv hy
                    exact hB.idx hpp (by omega) hq hr (by omega)) h6
                  have hf : faultF ps = (((p : Int), (i : Int) + 1), 10) := by unfold faultF; rw [if_neg hin, hpf, hef, hmf, hhit]
                  rw [hf]
                  refine ret_eq ?_
                  simp only [go_sem]
                · repeat (first | ((with_reducible refine AWp.ofC ?_ ?_); (focus exact rfl); simp only [go_sem]) | ((with_reducible refine an ?_ ?_); focus exact Au))
                  exact ⟨_, List.Sublist.refl _, rfl, hB.next h6⟩
              · have e : i = ps[p].evs.length := by omega
                rw [e] at hB
                repeat (first | ((with_reducible refine AWp.ofC ?_ ?_); (focus exact rfl); simp only [go_sem]) | ((with_reducible refine an ?_ ?_); focus exact Au))
                exact ⟨_, List.Sublist.refl _, rfl, hB.row hpp⟩
            · have hcf : cycF ps = none := cycF_none fun j y hy => by
                obtain ⟨q, hq, r, hr, e, rfl⟩ := evIds_inv hy
                exact hA.1 q hq r (by omega) hr
              repeat (first | ((with_reducible refine AWp.ofC ?_ ?_); (focus exact rfl); simp only [go_sem]) | ((with_reducible refine an ?_ ?_); focus exact Au))
              have hf : faultF ps = ((0, 0), 0) := by unfold faultF; rw [if_neg hin, hpf, hef, hmf, hcf]
              rw [hf]
              refine ret_eq ?_
              simp only [go_sem]
theorem ref12_Valid (ps : List Pr) (hs : Sm ps) : PC Go.Proofs.Tryz.prog 12 [aTr ps] (ab (validF ps)) := by
  refine PC.enter 12 [.tmp 2] [1, 3] Go.Proofs.Tryz.func12 rfl rfl rfl rfl rfl (by simp) (AWp.of ?_); simp only [go_sem]
  repeat (first | ((with_reducible refine AWp.ofC ?_ ?_); (focus exact rfl); simp only [go_sem]) | ((with_reducible refine an ?_ ?_); focus exact Au))
  repeat ((with_reducible refine an ?_ ?_); focus exact As)
  refine (ref12_Fault ps hs).val.use ?_; simp only [go_sem]
  repeat ((with_reducible refine an ?_ ?_); focus exact As)
  intros
  refine AWp.of ?_; simp only [go_sem]
  repeat (first | ((with_reducible refine AWp.ofC ?_ ?_); (focus exact rfl); simp only [go_sem]) | ((with_reducible refine an ?_ ?_); focus exact Au))
  refine ret_eq ?_; simp only [go_sem]
  rfl
end Go.AL
end
section
/- The layer AL, last part: from the contracts to the statements about a call. No condition. -/
namespace Go.AL
open Go Go.RowKit Go.ChangeShapes Go.WideShapes Go.ChangeAt

theorem Fr.below {W W' : World} (h : Fr W (keysOf []) W') : Below W.heap.size W W' := ⟨h.os, h.tape, h.output, h.size, fun k hk => h.block k hk (by rintro ⟨x, hx, _⟩; cases hx)⟩
theorem LRel.empty (W : World) (hg : ∀ g x, GV g = some x → Rel W (fun b => b < W.heap.size) x (.pointer (some ⟨g, 0, none⟩))) : LRel W (fun b => b < W.heap.size) [] := ⟨fun _ h => h, (by intro x hx; cases hx), List.nodup_nil, (by intro x hx; cases hx), hg⟩
/-- A contract whose answer is a plain value, as a statement about the call. -/
theorem PC.calls {P : Program} {f : FuncId} {args : List AV} {x : Value} (h : PC P f args (.v x)) {W : World} {vs : List Value} (hg : ∀ g x, GV g = some x → Rel W (fun b => b < W.heap.size) x (.pointer (some ⟨g, 0, none⟩))) (hr : Rels W (fun b => b < W.heap.size) args vs) :
    Calls P f vs.toArray W fun e W' => e = .returned x ∧ Below W.heap.size W W' :=
  ((h.2 0 W _ vs (LRel.empty W hg) hr).calls (fun _ d hd => by cases hd)).mono fun e W' ⟨v, r, L', A', he, ⟨hr, _⟩, hf, _, _, _, hv⟩ => by
    subst he hr
    cases hv
    exact ⟨rfl, hf.below⟩
/-! ### What is read of the arguments -/
/-- Whatever is read at type t is E of some value. -/
def Rd {H : Type} (enc : TypeId × Value → H) (P : Program) (W : World) (t : TypeId) (k : Nat) {α : Type} (E : α → AV) (ok : α → Prop) : Prop :=
  ∀ fuel cs x, DataW.trod enc P W 0 (fun _ => true) true fuel t cs = some x → ∃ y, ok y ∧ elOk k (E y) ∧ cs.length = k ∧ ∀ (i : Nat) c u, (E y).cells[i]? = some c → cs[i]? = some u → Rel W (fun b => b < W.heap.size) c u
section
variable {H : Type} {enc : TypeId × Value → H} {P : Program} {W : World} {t : TypeId}
theorem Rd.int (ht : P.underlying t = some (.int .i64)) : Rd enc P W t 1 ai (fun n => (Lit.int .i64 n).wf = true) := by
  intro fuel cs x h
  obtain ⟨n, rfl, _, hw⟩ := DataW.trod_int ht h
  refine ⟨n, hw, ⟨rfl, rfl⟩, rfl, fun i c u h1 h2 => ?_⟩
  cases i with
  | zero => cases h1; cases h2; exact .v _
  | succ i => cases h2
theorem Rd.str (ht : P.underlying t = some .string) : Rd enc P W t 1 (fun s => .v (.string s)) (fun _ => True) := by
  intro fuel cs x h
  obtain ⟨s, rfl, _, hw⟩ := DataW.trod_string ht h
  refine ⟨s, trivial, ⟨rfl, rfl⟩, rfl, fun i c u h1 h2 => ?_⟩
  cases i with
  | zero => cases h1; cases h2; exact .v _
  | succ i => cases h2
theorem ofFin {α : Type} {len : Nat} {Q : Nat → α → Prop} (h : ∀ i, i < len → ∃ y, Q i y) : ∃ l : List α, l.length = len ∧ ∀ (i : Nat) (hi : i < l.length), Q i l[i] := by
  refine ⟨List.ofFn fun i : Fin len => Classical.choose (h i i.2), List.length_ofFn, fun i hi => ?_⟩
  rw [List.getElem_ofFn]
  exact Classical.choose_spec (h i (by simpa using hi))
theorem add_none (b off n : Nat) : (⟨b, off, none⟩ : Addr).add n = ⟨b, off + n, none⟩ := by
  unfold Addr.add; split
  · rename_i h; rw [h]; rfl
  · rfl
theorem Rd.slice {α : Type} {E : α → AV} {ok : α → Prop} {e : TypeId} {k : Nat} (ht : P.underlying t = some (.slice e)) (hk : P.cellsOf e = k) (h0 : 0 < k) (he : Rd enc P W e k E ok) :
    Rd enc P W t 1 (fun l : List α => .sl k (l.map E)) (fun l => l.length ≤ maxLen ∧ ∀ y ∈ l, ok y) := by
  intro fuel cs x h
  rcases DataW.trod_slice ht h with ⟨rfl, _⟩ | ⟨a, len, cap, elems, rest, n, _, rfl, _, _, hl, hm, hlen, hel, _, _⟩
  · refine ⟨[], ⟨by simp, by simp⟩, ⟨rfl, rfl⟩, rfl, fun i c u h1 h2 => ?_⟩
    cases i with
    | zero => cases h1; cases h2; exact .sl0 k none 0 (by simp)
    | succ i => cases h2
  · rw [hk] at hel
    obtain ⟨l, hll, hli⟩ := ofFin (len := len) (Q := fun i y => ∃ cs : List Value, ok y ∧ elOk k (E y) ∧ cs.length = k ∧ (∀ m, m < k → W.cell? ((a.add (i * k)).add m) = cs[m]?) ∧ ∀ (m : Nat) c u, (E y).cells[m]? = some c → cs[m]? = some u → Rel W (fun b => b < W.heap.size) c u) fun i hi => by
      have h1 := hel i hi
      rw [List.getElem?_eq_getElem (by omega), Option.bind_eq_some_iff] at h1
      obtain ⟨cs, hc, ht⟩ := h1
      obtain ⟨y, k1, k2, k3, k4⟩ := he _ _ _ ht
      exact ⟨y, cs, k1, k2, k3, (World.cells?_some hc).2.2, k4⟩
    refine ⟨l, ⟨by omega, fun y hy => ?_⟩, ⟨rfl, rfl⟩, rfl, fun i c u h1 h2 => ?_⟩
    · obtain ⟨i, hi, rfl⟩ := List.getElem_of_mem hy
      obtain ⟨_, h, _⟩ := hli i (by omega); exact h
    · cases i with
      | succ i => cases h2
      | zero =>
        cases h1; cases h2
        by_cases hz : len = 0
        · subst hz
          rw [List.length_eq_zero_iff.1 hll]
          exact .sl0 k _ cap hm
        · obtain ⟨b, off, spot⟩ := a
          obtain ⟨cs0, _, _, c3, c4, _⟩ := hli 0 (by omega)
          have hs : spot = none := by
            have := c4 0 h0
            have e0 : ∀ a : Addr, a.add 0 = a := fun _ => rfl
            rw [Nat.zero_mul, e0, e0, List.getElem?_eq_getElem (by omega)] at this
            cases spot with
            | none => rfl
            | some s =>
              exfalso
              unfold World.cell? at this
              split at this
              · rw [if_pos (show (some s).isSome = true from rfl)] at this; cases this
              · cases this
          subst hs
          have cell : ∀ (i : Nat) (hi : i < len) (m : Nat), m < k → ∃ u, W.cell? ⟨b, off + (i * k + m), none⟩ = some u ∧ ∀ c, (E (l[i]'(by omega))).cells[m]? = some c → Rel W (fun b => b < W.heap.size) c u := fun i hi m hm => by
            obtain ⟨cs, _, _, c3, c4, c5⟩ := hli i (by omega)
            have := c4 m hm
            rw [add_none, add_none, Nat.add_assoc, List.getElem?_eq_getElem (by omega)] at this
            exact ⟨_, this, fun c hc => c5 m c _ hc (List.getElem?_eq_getElem (by omega))⟩
          have hA : b < W.heap.size := by
            obtain ⟨u, hu, _⟩ := cell 0 (by omega) 0 h0
            unfold World.cell? at hu
            cases hb : W.heap[b]? with
            | none => simp [hb] at hu
            | some o => exact (Array.getElem?_eq_some_iff.1 hb).1
          have := Rel.sl (w := W) (A := fun b => b < W.heap.size) k (l.map E) b off cap (fun j => (W.cell? ⟨b, off + j, none⟩).getD undef) hA (by rw [List.length_map]; omega) hm
            (fun x hx => by
              obtain ⟨y, hy, rfl⟩ := List.mem_map.1 hx
              obtain ⟨i, hi, rfl⟩ := List.getElem_of_mem hy
              obtain ⟨cs, _, c2, _⟩ := hli i (by omega)
              exact c2)
            (fun j hj => by
              rw [List.length_map, hll] at hj
              have h1 : j / k < len := (Nat.div_lt_iff_lt_mul h0).2 hj
              obtain ⟨u, hu, _⟩ := cell (j / k) h1 (j % k) (Nat.mod_lt _ h0)
              have e : j / k * k + j % k = j := Nat.div_add_mod' j k
              rw [e] at hu
              rw [hu]; rfl)
            (fun i x j y hx hy => by
              rw [List.getElem?_map, Option.map_eq_some_iff] at hx
              obtain ⟨z, hz, rfl⟩ := hx
              obtain ⟨hi, rfl⟩ := List.getElem?_eq_some_iff.1 hz
              obtain ⟨cs, _, c2, _⟩ := hli i (by omega)
              have hj : j < k := by have := (List.getElem?_eq_some_iff.1 hy).1; have := c2.1; omega
              obtain ⟨u, hu, hr⟩ := cell i (by omega) j hj
              rw [hu]
              exact hr _ hy)
          rw [List.length_map, hll] at this
          exact this
/-! ### The statement's end -/
theorem trodAll_stays {W' : World} (hl : laidOutB P = true) (hb : Below W.heap.size W W') : ∀ {ts : List TypeId} {vs : List Value} {ds : List (DataW H)} {ps : List MemPlace}, (∀ t ∈ ts, P.readableRec t = true ∧ t < P.types.size) → DataW.TrodAll enc P W 0 (fun _ => true) true ts vs ds ps →
    DataW.TrodAll enc P W' 0 (fun b => decide (b < W.heap.size)) true ts vs ds ps
  | [], _, _, _, _, h => by
    obtain ⟨rfl, rfl, rfl⟩ := trodAll_nil h
    rfl
  | t :: ts, _, _, _, ht, h => by
    have hlt := h.lt
    obtain ⟨v, vs1, d, ds1, a, b, rfl, rfl, rfl, h1, h2⟩ := trodAll_cons h
    exact ⟨a, b, Below.trod hl (ht t List.mem_cons_self).1 (ht t List.mem_cons_self).2 h1 hb (fun x hx => hlt x (List.mem_append_left _ hx)), trodAll_stays hl hb (fun t' ht' => ht t' (List.mem_cons_of_mem _ ht')) h2, rfl⟩
/-- It returned true, and of what was there nothing turned. -/
theorem post_true {f : Func} {s : ChangeSpec} {fresh handsOn : Bool} {W' : World} {args : Array Value} {ds : List (DataW H)} {before : List MemPlace} {tb : TypeId} (hl : laidOutB P = true)
    (hW : DataW.Whole enc P f.params.toList s.vars false W args.toList ds [] before) (hv : s.vars = []) (hs : s.fn H (ds ++ []) = { results := [.lit (.bool true)], args := ds })
    (hr : f.resultTypes = #[tb]) (ht : P.underlying tb = some .bool) (hp : ∀ t ∈ f.params.toList, P.readableRec t = true ∧ t < P.types.size) (hb : Below W.heap.size W W') :
    s.post enc P f false fresh handsOn false W args (.bool true) W' := by
  have hW0 := hW
  obtain ⟨p, q, hA, hV, rfl, _, _⟩ := hW0
  refine ⟨ds, [], p ++ q, [], p, [], hW, ?_, ?_, ?_, hb.frame _, fun h => by cases h⟩
  · rw [hs, hr]
    exact ⟨[], [], ⟨1, by simp [DataW.trod, Value.cells, ht]⟩, rfl, rfl⟩
  · rw [hs]
    exact trodAll_stays hl hb hp hA
  · rw [hs, hv]; rfl
end
end Go.AL
end
section
/- The layer AL: structs as arguments. No condition. -/
namespace Go.AL
open Go Go.RowKit Go.ChangeShapes Go.WideShapes Go.ChangeAt
section
variable {H : Type} {enc : TypeId × Value → H} {P : Program} {W : World} {t : TypeId}
theorem Rd.map {α β : Type} {k : Nat} {E : α → AV} {E' : β → AV} {ok : α → Prop} {ok' : β → Prop} (f : α → β) (hE : ∀ y, E y = E' (f y)) (hok : ∀ y, ok y → ok' (f y)) (h : Rd enc P W t k E ok) : Rd enc P W t k E' ok' := by
  intro fuel cs x hx
  obtain ⟨y, k1, k2, k3, k4⟩ := h fuel cs x hx
  exact ⟨f y, hok y k1, by rw [← hE]; exact k2, k3, by rw [← hE]; exact k4⟩
/-- Whatever is read at types ts, of one cell each, is E of some value. -/
def RdL (enc : TypeId × Value → H) (P : Program) (W : World) (ts : List TypeId) {α : Type} (E : α → List AV) (ok : α → Prop) : Prop :=
  ∀ (n : Nat) (cs : List Value) (xs : List (DataW H × List MemPlace)), xs.length = ts.length → cs.length = ts.length →
    (∀ (i : Nat) t, ts[i]? = some t → DataW.trod enc P W 0 (fun _ => true) true n t ((cs.drop i).take 1) = xs[i]?) →
    ∃ y, ok y ∧ (E y).length = ts.length ∧ (E y).all one = true ∧ ∀ (i : Nat) c u, (E y)[i]? = some c → cs[i]? = some u → Rel W (fun b => b < W.heap.size) c u
theorem RdL.nil : RdL enc P W [] (fun _ : Unit => []) (fun _ => True) := by
  intro n cs xs _ _ _
  exact ⟨(), trivial, rfl, rfl, fun i c u h => by simp at h⟩
theorem RdL.cons {α β : Type} {E : α → AV} {ok : α → Prop} {ts : List TypeId} {F : β → List AV} {ok' : β → Prop} (h : Rd enc P W t 1 E ok) (h1 : ∀ y, one (E y) = true ∧ (E y).cells = [E y]) (hs : RdL enc P W ts F ok') :
    RdL enc P W (t :: ts) (fun y : α × β => E y.1 :: F y.2) (fun y => ok y.1 ∧ ok' y.2) := by
  intro n cs xs hx hc hi
  match xs, cs, hx, hc with
  | x :: xs, u :: cs, hx, hc =>
    have h0 := hi 0 t rfl
    simp only [List.drop_zero, List.take_succ_cons, List.take_zero, List.getElem?_cons_zero] at h0
    obtain ⟨y, k1, _, _, k4⟩ := h _ _ _ h0
    obtain ⟨z, g1, g2, g3, g4⟩ := hs n cs xs (by simpa using hx) (by simpa using hc) fun i t' ht => by
      have := hi (i + 1) t' (by simpa using ht)
      simpa using this
    refine ⟨(y, z), ⟨k1, g1⟩, by simp [g2], by simp [g3, (h1 y).1], fun i c u' hcc hu => ?_⟩
    cases i with
    | zero => cases hcc; cases hu; exact k4 0 _ _ (by rw [(h1 y).2]; rfl) rfl
    | succ i => exact g4 i c u' (by simpa using hcc) (by simpa using hu)
theorem Rd.struct {fs : Array Field} {α : Type} {ts : List TypeId} {F : α → List AV} {ok : α → Prop} (ht : P.underlying t = some (.struct fs)) (hts : fs.toList.map (·.type) = ts) (hof : fs.toList.map (·.offset) = List.range ts.length) (hk : P.cellsOf t = ts.length)
    (hc : (ts.all fun t => P.cellsOf t == 1) = true) (h : RdL enc P W ts F ok) : Rd enc P W t ts.length (fun y => .agg (F y)) ok := by
  intro fuel cs x hx
  obtain ⟨xs, n, _, _, hl, hlen, hf⟩ := DataW.trod_struct ht hx
  have hfl : fs.size = ts.length := by rw [← hts]; simp
  obtain ⟨y, k1, k2, k3, k4⟩ := h n cs xs (by omega) (by omega) fun i t' ht' => by
    have hi : i < ts.length := (List.getElem?_eq_some_iff.1 ht').1
    have hg : fs[i]? = some fs[i] := Array.getElem?_eq_getElem (by omega)
    have e1 : (fs[i]).type = t' := by
      rw [← hts, List.getElem?_map, Array.getElem?_toList, hg] at ht'
      exact Option.some.inj ht'
    have e2 : (fs[i]).offset = i := by
      have : (fs.toList.map (·.offset))[i]? = some i := by rw [hof, List.getElem?_range hi]
      rw [List.getElem?_map, Array.getElem?_toList, hg] at this
      exact Option.some.inj this
    have := hf i _ hg
    have hct : P.cellsOf t' = 1 := by
      have := List.all_eq_true.1 hc _ (List.mem_of_getElem? ht')
      simpa using this
    rw [e1, e2, hct] at this
    exact this
  exact ⟨y, k1, ⟨k2, k3⟩, by omega, k4⟩
/-- An argument that is a struct. -/
theorem Rd.agg {α : Type} {k : Nat} {E : α → AV} {F : α → List AV} {ok : α → Prop} (hE : ∀ y, E y = .agg (F y)) (h : Rd enc P W t k E ok) {v : Value} {d : DataW H} {ps : List MemPlace} (ha : ∃ us, v = .agg us)
    (hd : DataW.Trod enc P W 0 (fun _ => true) true t v d ps) : ∃ y, ok y ∧ Rel W (fun b => b < W.heap.size) (E y) v := by
  obtain ⟨us, rfl⟩ := ha
  obtain ⟨fuel, hf⟩ := hd
  obtain ⟨y, k1, k2, k3, k4⟩ := h _ _ _ hf
  refine ⟨y, k1, ?_⟩
  have e1 : (E y).cells = F y := by rw [hE]; rfl
  have e2 : (Value.agg us).cells.toList = us.toList := rfl
  have k5 := k2.1
  rw [e1] at k4 k5
  rw [e2] at k3 k4
  rw [hE]
  refine .agg _ _ ?_ fun i c u h1 h2 => k4 i c u h1 (by simpa using h2)
  rw [k5, ← k3]; simp
theorem okWide_agg {r : Go.Reach} {b : Nat} {fs : Array Field} {v : Value} (ht : P.underlying t = some (.struct fs)) (h : Value.okWide P W r b t v) : ∃ us, v = .agg us := by
  unfold Value.okWide at h
  rw [ht] at h
  obtain ⟨cs, h1, _⟩ := h
  exact ⟨cs, h1⟩
theorem Rd.one {α : Type} {E : α → AV} {ok : α → Prop} (h : Rd enc P W t 1 E ok) (h1 : ∀ y, (E y).cells = [E y]) {v : Value} {d : DataW H} {ps : List MemPlace} (hc : v.cells = #[v])
    (hd : DataW.Trod enc P W 0 (fun _ => true) true t v d ps) : ∃ y, ok y ∧ Rel W (fun b => b < W.heap.size) (E y) v := by
  obtain ⟨fuel, hf⟩ := hd
  rw [hc] at hf
  obtain ⟨y, k1, _, _, k4⟩ := h _ _ _ hf
  exact ⟨y, k1, k4 0 _ _ (by rw [h1]; rfl) rfl⟩
theorem okWide_cells {r : Go.Reach} {b : Nat} {e : TypeId} {v : Value} (ht : P.underlying t = some (.slice e)) (h : Value.okWide P W r b t v) : v.cells = #[v] := by
  cases v with
  | agg cs =>
    exfalso
    simp only [Value.okWide, ht, Cell.okWide, Cell.ok] at h
  | _ => rfl
end
end Go.AL
end
section
/- The layer AL: recursive types as arguments: reading with bounded fuel. No condition. -/
namespace Go.AL
open Go Go.RowKit Go.ChangeShapes Go.WideShapes Go.ChangeAt
/-- Whatever is read at type t with fuel of at most N is E of some value. -/
def RdF {H : Type} (enc : TypeId × Value → H) (P : Program) (W : World) (N : Nat) (t : TypeId) (k : Nat) {α : Type} (E : α → AV) (ok : α → Prop) : Prop :=
  ∀ fuel cs x, fuel ≤ N → DataW.trod enc P W 0 (fun _ => true) true fuel t cs = some x → ∃ y, ok y ∧ elOk k (E y) ∧ cs.length = k ∧ ∀ (i : Nat) c u, (E y).cells[i]? = some c → cs[i]? = some u → Rel W (fun b => b < W.heap.size) c u
section
variable {H : Type} {enc : TypeId × Value → H} {P : Program} {W : World} {t : TypeId}
theorem RdF.all {α : Type} {k : Nat} {E : α → AV} {ok : α → Prop} (h : ∀ N, RdF enc P W N t k E ok) : Rd enc P W t k E ok := fun fuel cs x hx => h fuel fuel cs x (Nat.le_refl _) hx
theorem RdF.mono {α : Type} {k : Nat} {E : α → AV} {ok : α → Prop} {N M : Nat} (h : RdF enc P W N t k E ok) (hM : M ≤ N) : RdF enc P W M t k E ok := fun fuel cs x hf hx => h fuel cs x (by omega) hx
theorem RdF.zero {α : Type} {k : Nat} {E : α → AV} {ok : α → Prop} : RdF enc P W 0 t k E ok := fun fuel cs x hf hx => by
  obtain rfl : fuel = 0 := by omega
  simp [DataW.trod] at hx
theorem RdF.map {α β : Type} {k : Nat} {N : Nat} {E : α → AV} {E' : β → AV} {ok : α → Prop} {ok' : β → Prop} (f : α → β) (hE : ∀ y, E y = E' (f y)) (hok : ∀ y, ok y → ok' (f y)) (h : RdF enc P W N t k E ok) : RdF enc P W N t k E' ok' := by
  intro fuel cs x hN hx
  obtain ⟨y, k1, k2, k3, k4⟩ := h fuel cs x hN hx
  exact ⟨f y, hok y k1, by rw [← hE]; exact k2, k3, by rw [← hE]; exact k4⟩
theorem RdF.slice {N : Nat} {α : Type} {E : α → AV} {ok : α → Prop} {e : TypeId} {k : Nat} (ht : P.underlying t = some (.slice e)) (hk : P.cellsOf e = k) (h0 : 0 < k) (he : RdF enc P W N e k E ok) :
    RdF enc P W (N + 1) t 1 (fun l : List α => .sl k (l.map E)) (fun l => l.length ≤ maxLen ∧ ∀ y ∈ l, ok y) := by
  intro fuel cs x hN h
  rcases DataW.trod_slice ht h with ⟨rfl, _⟩ | ⟨a, len, cap, elems, rest, n, hfu, rfl, _, _, hl, hm, hlen, hel, _, _⟩
  · refine ⟨[], ⟨by simp, by simp⟩, ⟨rfl, rfl⟩, rfl, fun i c u h1 h2 => ?_⟩
    cases i with
    | zero => cases h1; cases h2; exact .sl0 k none 0 (by simp)
    | succ i => cases h2
  · rw [hk] at hel
    obtain ⟨l, hll, hli⟩ := ofFin (len := len) (Q := fun i y => ∃ cs : List Value, ok y ∧ elOk k (E y) ∧ cs.length = k ∧ (∀ m, m < k → W.cell? ((a.add (i * k)).add m) = cs[m]?) ∧ ∀ (m : Nat) c u, (E y).cells[m]? = some c → cs[m]? = some u → Rel W (fun b => b < W.heap.size) c u) fun i hi => by
      have h1 := hel i hi
      rw [List.getElem?_eq_getElem (by omega), Option.bind_eq_some_iff] at h1
      obtain ⟨cs, hc, ht⟩ := h1
      obtain ⟨y, k1, k2, k3, k4⟩ := he _ _ _ (by omega) ht
      exact ⟨y, cs, k1, k2, k3, (World.cells?_some hc).2.2, k4⟩
    refine ⟨l, ⟨by omega, fun y hy => ?_⟩, ⟨rfl, rfl⟩, rfl, fun i c u h1 h2 => ?_⟩
    · obtain ⟨i, hi, rfl⟩ := List.getElem_of_mem hy
      obtain ⟨_, h, _⟩ := hli i (by omega); exact h
    · cases i with
      | succ i => cases h2
      | zero =>
        cases h1; cases h2
        by_cases hz : len = 0
        · subst hz
          rw [List.length_eq_zero_iff.1 hll]
          exact .sl0 k _ cap hm
        · obtain ⟨b, off, spot⟩ := a
          obtain ⟨cs0, _, _, c3, c4, _⟩ := hli 0 (by omega)
          have hs : spot = none := by
            have := c4 0 h0
            have e0 : ∀ a : Addr, a.add 0 = a := fun _ => rfl
            rw [Nat.zero_mul, e0, e0, List.getElem?_eq_getElem (by omega)] at this
            cases spot with
            | none => rfl
            | some s =>
              exfalso
              unfold World.cell? at this
              split at this
              · rw [if_pos (show (some s).isSome = true from rfl)] at this; cases this
              · cases this
          subst hs
          have cell : ∀ (i : Nat) (hi : i < len) (m : Nat), m < k → ∃ u, W.cell? ⟨b, off + (i * k + m), none⟩ = some u ∧ ∀ c, (E (l[i]'(by omega))).cells[m]? = some c → Rel W (fun b => b < W.heap.size) c u := fun i hi m hm => by
            obtain ⟨cs, _, _, c3, c4, c5⟩ := hli i (by omega)
            have := c4 m hm
            rw [add_none, add_none, Nat.add_assoc, List.getElem?_eq_getElem (by omega)] at this
            exact ⟨_, this, fun c hc => c5 m c _ hc (List.getElem?_eq_getElem (by omega))⟩
          have hA : b < W.heap.size := by
            obtain ⟨u, hu, _⟩ := cell 0 (by omega) 0 h0
            unfold World.cell? at hu
            cases hb : W.heap[b]? with
            | none => simp [hb] at hu
            | some o => exact (Array.getElem?_eq_some_iff.1 hb).1
          have := Rel.sl (w := W) (A := fun b => b < W.heap.size) k (l.map E) b off cap (fun j => (W.cell? ⟨b, off + j, none⟩).getD undef) hA (by rw [List.length_map]; omega) hm
            (fun x hx => by
              obtain ⟨y, hy, rfl⟩ := List.mem_map.1 hx
              obtain ⟨i, hi, rfl⟩ := List.getElem_of_mem hy
              obtain ⟨cs, _, c2, _⟩ := hli i (by omega)
              exact c2)
            (fun j hj => by
              rw [List.length_map, hll] at hj
              have h1 : j / k < len := (Nat.div_lt_iff_lt_mul h0).2 hj
              obtain ⟨u, hu, _⟩ := cell (j / k) h1 (j % k) (Nat.mod_lt _ h0)
              have e : j / k * k + j % k = j := Nat.div_add_mod' j k
              rw [e] at hu
              rw [hu]; rfl)
            (fun i x j y hx hy => by
              rw [List.getElem?_map, Option.map_eq_some_iff] at hx
              obtain ⟨z, hz, rfl⟩ := hx
              obtain ⟨hi, rfl⟩ := List.getElem?_eq_some_iff.1 hz
              obtain ⟨cs, _, c2, _⟩ := hli i (by omega)
              have hj : j < k := by have := (List.getElem?_eq_some_iff.1 hy).1; have := c2.1; omega
              obtain ⟨u, hu, hr⟩ := cell i (by omega) j hj
              rw [hu]
              exact hr _ hy)
          rw [List.length_map, hll] at this
          exact this
/-- Whatever is read at types ts, of one cell each, is E of some value. -/
def RdFL (enc : TypeId × Value → H) (P : Program) (W : World) (N : Nat) (ts : List TypeId) {α : Type} (E : α → List AV) (ok : α → Prop) : Prop :=
  ∀ (n : Nat) (cs : List Value) (xs : List (DataW H × List MemPlace)), n ≤ N → xs.length = ts.length → cs.length = ts.length →
    (∀ (i : Nat) t, ts[i]? = some t → DataW.trod enc P W 0 (fun _ => true) true n t ((cs.drop i).take 1) = xs[i]?) →
    ∃ y, ok y ∧ (E y).length = ts.length ∧ (E y).all one = true ∧ ∀ (i : Nat) c u, (E y)[i]? = some c → cs[i]? = some u → Rel W (fun b => b < W.heap.size) c u
theorem RdFL.nil {N : Nat} : RdFL enc P W N [] (fun _ : Unit => []) (fun _ => True) := by
  intro n cs xs _ _ _ _
  exact ⟨(), trivial, rfl, rfl, fun i c u h => by simp at h⟩
theorem RdFL.cons {N : Nat} {α β : Type} {E : α → AV} {ok : α → Prop} {ts : List TypeId} {F : β → List AV} {ok' : β → Prop} (h : RdF enc P W N t 1 E ok) (h1 : ∀ y, one (E y) = true ∧ (E y).cells = [E y]) (hs : RdFL enc P W N ts F ok') :
    RdFL enc P W N (t :: ts) (fun y : α × β => E y.1 :: F y.2) (fun y => ok y.1 ∧ ok' y.2) := by
  intro n cs xs hN hx hc hi
  match xs, cs, hx, hc with
  | x :: xs, u :: cs, hx, hc =>
    have h0 := hi 0 t rfl
    simp only [List.drop_zero, List.take_succ_cons, List.take_zero, List.getElem?_cons_zero] at h0
    obtain ⟨y, k1, _, _, k4⟩ := h _ _ _ hN h0
    obtain ⟨z, g1, g2, g3, g4⟩ := hs n cs xs hN (by simpa using hx) (by simpa using hc) fun i t' ht => by
      have := hi (i + 1) t' (by simpa using ht)
      simpa using this
    refine ⟨(y, z), ⟨k1, g1⟩, by simp [g2], by simp [g3, (h1 y).1], fun i c u' hcc hu => ?_⟩
    cases i with
    | zero => cases hcc; cases hu; exact k4 0 _ _ (by rw [(h1 y).2]; rfl) rfl
    | succ i => exact g4 i c u' (by simpa using hcc) (by simpa using hu)
theorem RdF.struct {N : Nat} {fs : Array Field} {α : Type} {ts : List TypeId} {F : α → List AV} {ok : α → Prop} (ht : P.underlying t = some (.struct fs)) (hts : fs.toList.map (·.type) = ts) (hof : fs.toList.map (·.offset) = List.range ts.length) (hk : P.cellsOf t = ts.length)
    (hc : (ts.all fun t => P.cellsOf t == 1) = true) (h : RdFL enc P W N ts F ok) : RdF enc P W (N + 1) t ts.length (fun y => .agg (F y)) ok := by
  intro fuel cs x hN hx
  obtain ⟨xs, n, hfu, _, hl, hlen, hf⟩ := DataW.trod_struct ht hx
  have hfl : fs.size = ts.length := by rw [← hts]; simp
  obtain ⟨y, k1, k2, k3, k4⟩ := h n cs xs (by omega) (by omega) (by omega) fun i t' ht' => by
    have hi : i < ts.length := (List.getElem?_eq_some_iff.1 ht').1
    have hg : fs[i]? = some fs[i] := Array.getElem?_eq_getElem (by omega)
    have e1 : (fs[i]).type = t' := by
      rw [← hts, List.getElem?_map, Array.getElem?_toList, hg] at ht'
      exact Option.some.inj ht'
    have e2 : (fs[i]).offset = i := by
      have : (fs.toList.map (·.offset))[i]? = some i := by rw [hof, List.getElem?_range hi]
      rw [List.getElem?_map, Array.getElem?_toList, hg] at this
      exact Option.some.inj this
    have := hf i _ hg
    have hct : P.cellsOf t' = 1 := by
      have := List.all_eq_true.1 hc _ (List.mem_of_getElem? ht')
      simpa using this
    rw [e1, e2, hct] at this
    exact this
  exact ⟨y, k1, ⟨k2, k3⟩, by omega, k4⟩
end
end Go.AL
end
section
/- The layer AL: a listed table of integers, as what a package-level variable holds. No condition. -/
namespace Go.AL
open Go Go.RowKit
end Go.AL
end
section
/- The layer AL: the library's sort by a comparison (slices.SortFunc at elements of one cell) as a call with owned memory. -/
namespace Go.AL
open Go Go.RowKit Go.Lib Go.Sort Go.Proofs Go.Shelf

/-- An element: the value in the cell, and what it stands for. -/
structure Item (w : World) (A : Foot) {β : Type} (av : β → AV) (Q : β → Prop) where
  u : Value
  x : β
  rel : Rel w A (av x) u
  ok : Q x

theorem items {w : World} {A : Foot} {β : Type} {av : β → AV} {Q : β → Prop} : ∀ (xs : List β) (us : List Value), us.length = xs.length →
    (∀ (i : Nat) x u, xs[i]? = some x → us[i]? = some u → Rel w A (av x) u ∧ Q x) → ∃ d : List (Item w A av Q), d.map (·.x) = xs ∧ d.map (·.u) = us
  | [], us, hl, _ => ⟨[], rfl, (List.eq_nil_of_length_eq_zero hl).symm⟩
  | x :: xs, [], hl, _ => by simp at hl
  | x :: xs, u :: us, hl, h => by
    obtain ⟨d, h1, h2⟩ := items xs us (by simpa using hl) fun i y v hy hv => h (i + 1) y v (by simpa using hy) (by simpa using hv)
    have h0 := h 0 x u rfl rfl
    exact ⟨⟨u, x, h0.1, h0.2⟩ :: d, by simp [h1], by simp [h2]⟩

theorem grow_of_Fr {w w' : World} {M : Foot} (h : Fr w M w') (hM : ∀ b, ¬ M b) : ∃ q os, w' = grow (w.drewN q) os := by
  refine ⟨w'.drawn - w.drawn, w'.heap.extract w.heap.size w'.heap.size, ?_⟩
  have hh : w'.heap = w.heap ++ w'.heap.extract w.heap.size w'.heap.size := by
    apply Array.ext_getElem?
    intro k
    by_cases hk : k < w.heap.size
    · rw [Array.getElem?_append_left hk]; exact h.block k hk (hM k)
    · rw [Array.getElem?_append_right (by omega), Array.getElem?_extract]
      have := h.size
      by_cases hk2 : k < w'.heap.size
      · rw [if_pos (by omega)]; congr 1; omega
      · rw [if_neg (by omega)]; exact Array.getElem?_eq_none (by omega)
  have hd := h.drawn
  obtain ⟨heap, tape, drawn, os, out⟩ := w'
  simp only [grow, World.drewN, World.mk.injEq]
  exact ⟨hh, h.tape, by simp only at hd ⊢; omega, h.os, h.output⟩

theorem sortWorld_heap_ne {α : Type} [Inhabited α] (enc : α → Value) (w : World) (b o m : Nat) (d : Array α) (os : Array Obj) {k : Nat} (hk : k < w.heap.size) (hb : k ≠ b) :
    (sortWorld enc w b o m d os).heap[k]? = w.heap[k]? := by
  simp only [sortWorld, grow, putRow, mapBlock, Sort.ahead]
  rw [Array.getElem?_append_left (by simpa using hk), Array.getElem?_modify, if_neg (fun e => hb e.symm)]
theorem sortWorld_heap_eq {α : Type} [Inhabited α] (enc : α → Value) (w : World) (b o m : Nat) (d : Array α) (os : Array Obj) {c : Array Value} {t : TypeId} {fr : Nat × Nat} (h : w.heap[b]? = some (.cells c t fr)) :
    (sortWorld enc w b o m d os).heap[b]? = some (.cells (putCells enc o d c) t fr) := by
  have hk : b < w.heap.size := (Array.getElem?_eq_some_iff.1 h).1
  simp only [sortWorld, grow, putRow, mapBlock, Sort.ahead]
  rw [Array.getElem?_append_left (by simpa using hk), Array.getElem?_modify, if_pos rfl, h]
  rfl
theorem sortWorld_size {α : Type} [Inhabited α] (enc : α → Value) (w : World) (b o m : Nat) (d : Array α) (os : Array Obj) : w.heap.size ≤ (sortWorld enc w b o m d os).heap.size := by
  simp only [sortWorld, grow, putRow, mapBlock, Sort.ahead, Array.size_append, Array.size_modify]; omega


theorem sort_calls {P : Program} {ρ : Ren} (S : SlLaysF.n6 P ρ) {g : Nat} {t : TypeId} {β : Type} (av : β → AV) (Q : β → Prop) (dflt : β) (hQ : Q dflt) (hd : ∀ w A, ∃ u, Rel w A (av dflt) u)
    (ho : ∀ x, Q x → one (av x) = true) (cf : β → β → Int) (hS : SWO (ltOf cf)) (hc : ∀ x y, Q x → Q y → PC P g [av x, av y] (.v (.int .i64 (cf x y)))) (b cap : Nat) (xs : List β) (hx : ∀ x ∈ xs, Q x)
    (hlen : xs.length < 4611686018427387904) :
    MCalls P (ρ.f 6) [.ls b 1 0 xs.length cap, .v (.func (.func g) #[] #[])] [(b, .row t 1 (xs.map av) cap)]
      fun r L' => r = .tup [] ∧ ∃ ys : List β, ys.Perm xs ∧ ys.Pairwise (fun x y => ¬ cf y x < 0) ∧ L' = [(b, .row t 1 (ys.map av) cap)] := by
  refine ⟨S.f6.enters rfl, fun n w A vs hL hv => callsIn_wide.2 ?_⟩
  obtain ⟨u1, vs1, rfl, r1, hv⟩ := hv.inv_cons
  obtain ⟨u2, vs2, rfl, r2, hv⟩ := hv.inv_cons
  obtain rfl := hv.inv_nil
  cases r2
  cases r1 with
  | ls _ _ _ _ _ o hl hcm hoo =>
  have hb := hL.blk (b, .row t 1 (xs.map av) cap) List.mem_cons_self
  have hblk := hb.lt
  have hnA := hL.disj (b, .row t 1 (xs.map av) cap) List.mem_cons_self
  obtain ⟨c, b1, b2, b3, b4, b5, b6⟩ := hb
  simp only [Nat.mul_one, List.length_map] at b2 b3 hblk hnA
  have o0 : xs.length = 0 ∨ o = 0 := by rcases hoo with h | h <;> omega
  obtain ⟨d, d1, d2⟩ := items (w := w) (A := A) (av := av) (Q := Q) xs (c.toList.take xs.length) (by simp; omega) fun i x u hi hu => by
    have hlt : i < xs.length := (List.getElem?_eq_some_iff.1 hi).1
    have hq : Q x := hx x (List.mem_of_getElem? hi)
    rw [List.getElem?_take_of_lt hlt, Array.getElem?_toList] at hu
    exact ⟨b6 i (av x) 0 (av x) u (by simp [hi]) (by rw [one_cells (ho x hq)]; rfl) (by simpa using hu), hq⟩
  have dl : d.length = xs.length := by have := congrArg List.length d1; simpa using this
  obtain ⟨ud, hud⟩ := hd w A
  haveI : Inhabited (Item w A av Q) := ⟨⟨ud, dflt, hud, hQ⟩⟩
  let enc : Item w A av Q → Value := fun i => i.u
  let cf' : Item w A av Q → Item w A av Q → Int := fun i j => cf i.x j.x
  have hS' : SWO (ltOf cf') := ⟨fun x => hS.irrefl x.x, fun x y z => hS.trans x.x y.x z.x, fun x y z => hS.ntrans x.x y.x z.x⟩
  have hH : Holds enc w b o d.toArray := fun j hj => by
    have hj' : j < xs.length := by simpa [dl] using hj
    have ho0 : o = 0 := by omega
    subst ho0
    have e1 : (c.toList.take xs.length)[j]? = some (enc d[j]!) := by
      rw [← d2, List.getElem?_map, getElem!_pos d j (by omega), List.getElem?_eq_getElem (by omega)]; rfl
    rw [List.getElem?_take_of_lt hj', Array.getElem?_toList] at e1
    refine ⟨?_, ?_⟩
    · simp only [World.cell?, b1, Nat.zero_add, Option.isSome_none, Bool.false_eq_true, if_false]
      simpa using e1
    · simp [World.frozen?, b1]
  have eg : ∀ args w, (callFunc g args).run P w = .ok (.enter g args) w := (hc dflt dflt hQ hQ).1
  have hcmp : CmpLays1 P g #[] enc cf' b o d.toArray.size w := fun m os dk hdk x y => by
    have keep : ∀ k, A k → (sortWorld enc w b o m dk os).heap[k]? = w.heap[k]? := fun k hk => sortWorld_heap_ne enc w b o m dk os (hL.abnd k hk) (fun e => hnA (e ▸ hk))
    have hL' : LRel (sortWorld enc w b o m dk os) A [] := ⟨fun k hk => Nat.lt_of_lt_of_le (hL.abnd k hk) (sortWorld_size ..), (fun _ h => nomatch h), by simp, (fun _ h => nomatch h), hL.globL keep fun _ h => h⟩
    have hr : Rels (sortWorld enc w b o m dk os) A [av x.x, av y.x] [x.u, y.u] := .cons (x.rel.later keep fun _ h => h) (.cons (y.rel.later keep fun _ h => h) .nil)
    have h := callsIn_wide.1 ((hc x.x y.x x.ok y.ok).2 0 _ A _ hL' hr)
    refine Calls.mono h ?_
    rintro e w' ⟨v, r, L', A', rfl, ⟨rfl, rfl⟩, hf, _, _, _, hrv⟩
    cases hrv
    exact ⟨rfl, grow_of_Fr hf fun k ⟨_, hk, _⟩ => by cases hk⟩
  have h1 : OneCell enc := fun i => one_ok i.rel (ho i.x i.ok)
  have main := Any.slices_SortFunc S enc h1 cf' hS' g #[] b o cap d.toArray w eg hcmp hH hblk (by simpa [dl] using hlen)
  rw [show d.toArray.size = xs.length by simp [dl]] at main
  refine Calls.mono main ?_
  rintro e w' ⟨rfl, d', n', os, hp, hs, rfl⟩
  have sz : d'.size = xs.length := by rw [hp.1]; simp [dl]
  have keep : ∀ k, A k → (sortWorld enc w b o n' d' os).heap[k]? = w.heap[k]? := fun k hk => sortWorld_heap_ne enc w b o n' d' os (hL.abnd k hk) (fun e => hnA (e ▸ hk))
  refine ⟨_, .tup [], [(b, .row t 1 ((d'.toList.map (·.x)).map av) cap)], A, rfl, ⟨rfl, d'.toList.map (·.x), ?_, ?_, rfl⟩, ⟨rfl, rfl, rfl, sortWorld_size .., fun k hk hn => ?_, by simp [sortWorld, grow, putRow, mapBlock, Sort.ahead]⟩, fun _ h => .inl h, ?_, fun x hx => .inl ?_, .tup [] #[] rfl (by simp)⟩
  · have := hp.2.2
    rw [show d'.extract 0 xs.length = d' by rw [← sz]; exact Array.extract_size .., show d.toArray.extract 0 xs.length = d.toArray by rw [← dl]; simp] at this
    have := this.map (fun i : Item w A av Q => i.x)
    simpa [d1] using this
  · rw [List.pairwise_map, List.pairwise_iff_getElem]
    intro i j hi hj hij
    have hi' : i < d'.size := by simpa using hi
    have hj' : j < d'.size := by simpa using hj
    have := hs i j (Nat.zero_le _) hij (by omega)
    rw [getElem!_pos d' i hi', getElem!_pos d' j hj'] at this
    simpa [ltOf, cf'] using this
  · exact sortWorld_heap_ne _ _ _ _ _ _ _ hk fun e => hn ⟨_, List.mem_cons_self, e.symm⟩
  · have hb' := sortWorld_heap_eq enc w b o n' d' os b1
    refine ⟨fun k hk => Nat.lt_of_lt_of_le (hL.abnd k hk) (sortWorld_size ..), fun x hx => ?_, by simp, fun x hx => ?_, hL.globL keep fun _ h => h⟩
    · obtain rfl := List.mem_singleton.1 hx; exact hnA
    · obtain rfl := List.mem_singleton.1 hx
      refine ⟨_, hb', by simp [putCells, b2], by simp [sz]; omega, b4, fun y hy => ?_, fun i x j y u hi hj hu => ?_⟩
      · simp only [List.map_map, List.mem_map] at hy
        obtain ⟨it, _, rfl⟩ := hy
        have h1 := ho it.x it.ok
        exact ⟨by simp [one_cells h1], by revert h1; simp only [Function.comp]; cases av it.x <;> simp [one, okv]⟩
      · simp only [List.map_map, List.getElem?_map, Option.map_eq_some_iff] at hi
        obtain ⟨it, hit, rfl⟩ := hi
        have h1 := ho it.x it.ok
        simp only [Function.comp, one_cells h1] at hj
        have hj0 : j = 0 := by have := (List.getElem?_eq_some_iff.1 hj).1; simpa using this
        subst hj0
        simp only [List.getElem?_cons_zero, Option.some.injEq] at hj
        subst hj
        have hi2 : i < d'.size := by have := (List.getElem?_eq_some_iff.1 hit).1; simpa using this
        have o0' : o = 0 := by omega
        subst o0'
        simp only [Nat.mul_one, Nat.add_zero, putCells, Array.getElem?_mapIdx, Option.map_eq_some_iff] at hu
        obtain ⟨v0, _, hu⟩ := hu
        rw [if_pos (by omega)] at hu
        have e2 : d'[i - 0]! = it := by
          rw [Nat.sub_zero, getElem!_pos d' i hi2]
          have := (List.getElem?_eq_some_iff.1 hit).2
          simpa using this
        rw [e2] at hu
        subst hu
        exact it.rel.later keep fun _ h => h
  · obtain rfl := List.mem_singleton.1 hx; exact ⟨_, List.mem_cons_self, rfl⟩

/-- Sorted by a comparison. -/
def sortBy {β : Type} (cf : β → β → Int) (xs : List β) : List β := xs.mergeSort fun x y => decide (¬ cf y x < 0)
theorem sortBy_perm {β : Type} (cf : β → β → Int) (xs : List β) : (sortBy cf xs).Perm xs := List.mergeSort_perm _ _
theorem sortBy_pair {β : Type} {cf : β → β → Int} (hS : SWO (ltOf cf)) (xs : List β) : (sortBy cf xs).Pairwise fun x y => ¬ cf y x < 0 := by
  have h := List.pairwise_mergeSort (le := fun x y : β => decide (¬ cf y x < 0)) (fun a b c h1 h2 => ?_) (fun a b => ?_) xs
  · exact h.imp fun h => of_decide_eq_true h
  · have := hS.ntrans c b a (by simpa [ltOf] using h2) (by simpa [ltOf] using h1)
    simpa [ltOf] using this
  · by_cases h1 : cf b a < 0
    · by_cases h2 : cf a b < 0
      · have := hS.trans a b a (by simpa [ltOf] using h2) (by simpa [ltOf] using h1)
        rw [hS.irrefl] at this; cases this
      · simp [h2]
    · simp [h1]
theorem sortBy_eq {β : Type} {cf : β → β → Int} (hS : SWO (ltOf cf)) (ha : ∀ x y, ¬ cf x y < 0 → ¬ cf y x < 0 → x = y) {xs ys : List β} (hp : ys.Perm xs) (hq : ys.Pairwise fun x y => ¬ cf y x < 0) : ys = sortBy cf xs :=
  List.Perm.eq_of_pairwise (le := fun x y => ¬ cf y x < 0) (fun a b _ _ h1 h2 => ha a b h2 h1) hq (sortBy_pair hS xs) (hp.trans (sortBy_perm cf xs).symm)
/-- The sort, its result told. -/
theorem sort_calls' {P : Program} {ρ : Ren} (S : SlLaysF.n6 P ρ) {g : Nat} {t : TypeId} {β : Type} (av : β → AV) (Q : β → Prop) (dflt : β) (hQ : Q dflt) (hd : ∀ w A, ∃ u, Rel w A (av dflt) u)
    (ho : ∀ x, Q x → one (av x) = true) (cf : β → β → Int) (hS : SWO (ltOf cf)) (ha : ∀ x y, ¬ cf x y < 0 → ¬ cf y x < 0 → x = y) (hc : ∀ x y, Q x → Q y → PC P g [av x, av y] (.v (.int .i64 (cf x y)))) (b cap : Nat) (xs : List β)
    (hx : ∀ x ∈ xs, Q x) (hlen : xs.length < 4611686018427387904) :
    MCalls P (ρ.f 6) [.ls b 1 0 xs.length cap, .v (.func (.func g) #[] #[])] [(b, .row t 1 (xs.map av) cap)] fun r L' => r = .tup [] ∧ L' = [(b, .row t 1 ((sortBy cf xs).map av) cap)] :=
  (sort_calls S av Q dflt hQ hd ho cf hS hc b cap xs hx hlen).mono fun r L' ⟨h1, ys, hp, hq, h2⟩ => ⟨h1, by rw [h2, sortBy_eq hS ha hp hq]⟩
/-- A call of the library that leaves the world as it is. -/
theorem PC.same {P : Program} {f : FuncId} {args : List AV} {vs : List Value} {v : Value} (he : Enters P f) (hv : ∀ w A us, Rels w A args us → us = vs) (h : ∀ w, Calls P f vs.toArray w fun e w' => e = .returned v ∧ w' = w) : PC P f args (.v v) :=
  ⟨he, fun n w A us hL hr => callsIn_wide.2 (by
    rw [hv w A us hr]
    refine Calls.mono (h w) ?_
    rintro e w' ⟨rfl, rfl⟩
    exact ⟨v, .v v, [], A, rfl, ⟨rfl, rfl⟩, .refl _ _, fun _ h => .inl h, hL, (fun x hx => nomatch hx), .v v⟩)⟩
end Go.AL
end
