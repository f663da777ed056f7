/- Texts of this claim's proof: WAw, WSr, WOf, WWl, WSs, WSp, WXm, WXs, WSq. No condition. -/
import Derived.Test.YtceeooppejjliaaGreatDoorM6
import Derived.Test.YtceeooppejjliaaGreatDoorM11
import Derived.Test.YtceeooppejjliaaGreatDoorM10
section
/- The law of layer 49: awake. No condition. -/
namespace Go.AL
open Go Go.RowKit
set_option maxRecDepth 4000
theorem AWp.only {C : Cfg} {cd : Code} {Q : AQ} {ρ : Env} {L : AHeap} (ks : List Nat) (h : AWp C cd Q (ks.zip (ks.map (get ρ))) L) : AWp C cd Q ρ L :=
  AWp.st (fun _w0 _M _A0 _a _w hh => st_forget hh (get_zip ks ρ)) h
theorem Vw.mkRp {L : AHeap} {xs xs' : List AV} {k i j : Nat} (h : Vws L xs xs') : Vw L (.rp k xs i j) (.rp k xs' i j) := .rp h.1 h.2
def psA : List Pr := [⟨⟨#[112]⟩, [], [⟨2, 1, 5, 0, []⟩]⟩, ⟨⟨#[113]⟩, [], [⟨3, 0, 5, 3, []⟩]⟩]
def psB : List Pr := [⟨⟨#[112]⟩, [], []⟩, ⟨⟨#[113]⟩, [], [⟨1, 0, 0, 3, []⟩]⟩]
end Go.AL
end
section
/- Runs of elimination are determined; the example of the chapter. Plain laws. No condition. -/
namespace Go.AL
open Go Go.RowKit
set_option maxRecDepth 4000
theorem run_uniq {E : Elim} {now fin : Nat → Nat} {st : List Stp} {l : Bool} (h : RunR E now st fin l) : ∀ {fin' : Nat → Nat} {st' : List Stp} {l' : Bool}, RunR E now st' fin' l' → st = st' ∧ fin = fin' ∧ l = l' := by
  induction h with
  | stop h =>
    intro fin' st' l' h'
    cases h' with
    | stop _ => exact ⟨rfl, rfl, rfl⟩
    | lost h2 _ => rw [h] at h2; cases h2
    | go h2 _ _ => rw [h] at h2; cases h2
  | lost h hl =>
    intro fin' st' l' h'
    cases h' with
    | stop h2 => rw [h] at h2; cases h2
    | lost h2 _ => rw [h] at h2; cases h2; exact ⟨rfl, rfl, rfl⟩
    | go h2 hl2 _ => rw [h] at h2; cases h2; omega
  | go h hl hr ih =>
    intro fin' st' l' h'
    cases h' with
    | stop h2 => rw [h] at h2; cases h2
    | lost h2 hl2 => rw [h] at h2; cases h2; omega
    | go h2 hl2 hr2 =>
      rw [h] at h2; cases h2
      obtain ⟨e1, e2, e3⟩ := ih hr2
      exact ⟨by rw [e1], e2, e3⟩
theorem run_is {E : Elim} {fin : Nat → Nat} {st : List Stp} {l : Bool} (h : RunR E (fun _ => 0) st fin l) : stepsF E = st ∧ finF E = fin ∧ lostF E = l := run_uniq (run_spec E) h
/-! ### Answers -/
structure Ans where
  mode : Int
  holds : Bool
  kind : Int
  cut : List Int
  cuts : List (List Int)
  run : List (List Int)
  spans : List (Int × Int × Int)
  value : Int
def aSp (s : Int × Int × Int) : AV := .agg [ai s.1, ai s.2.1, ai s.2.2]
def aSps (l : List (Int × Int × Int)) : AV := .sl 3 (l.map aSp)
def aAns (a : Ans) : AV := .agg [ai a.mode, ab a.holds, ai a.kind, aInts a.cut, aRows a.cuts, aRows a.run, aSps a.spans, ai a.value]
def stpI (s : Stp) : Int × Int × Int := (s.1, s.2.1, s.2.2)
theorem aStp_I (l : List Stp) : .sl 3 (l.map aStp) = aSps (l.map stpI) := by unfold aSps; rw [List.map_map]; rfl
def cutL (n : Nat) (f : Nat → Nat) : List Int := (List.range n).map fun q => (f q : Int)
def noAns : Ans := ⟨0, false, 0, [], [], [], [], 0⟩
/-- The answer of an elimination. -/
noncomputable def ansOf (E : Elim) : Ans := if lostF E = true then ⟨1, false, 4, [], [], [], (stepsF E).map stpI, 0⟩ else ⟨1, true, 1, cutL E.n (finF E), [], [], [], 0⟩
/-! ### The example -/
def psC : List Pr := [⟨⟨#[112]⟩, [(⟨#[120]⟩, 0)], [⟨1, 0, 0, 0, [(0, 1)]⟩, ⟨1, 0, 0, 0, [(0, 0)]⟩, ⟨2, 1, 5, 0, []⟩]⟩, ⟨⟨#[113]⟩, [(⟨#[121]⟩, 0)], [⟨3, 0, 5, 0, []⟩, ⟨1, 0, 0, 0, [(0, 1)]⟩]⟩]
def oneT (p : Int) (s : ByteArray) : Pd := .mk 9 0 0 0 ByteArray.empty [.mk 2 0 p 0 s [], .mk 1 1 0 0 ByteArray.empty []]
def tsC : List Pd := [oneT 0 ⟨#[120]⟩, oneT 1 ⟨#[121]⟩]
def tsD : List Pd := [oneT 0 ⟨#[120]⟩, .mk 13 0 0 0 ByteArray.empty []]
theorem psC_valid : validF psC = true := by
  unfold validF faultF
  rw [if_neg (by decide), show procFirst psC = none from rfl, show evFirst psC = none from rfl, show msgF psC = none from rfl, cycF_rank (fun x => if x.1 = 0 then x.2 else x.2 + 3) (by decide)]
  rfl
theorem psC_sm : Sm psC := ⟨by decide, by decide, by decide, by decide⟩
theorem lclC {p : Int} {t : Pd} (h1 : formedB t = true) (h2 : allB (resB psC) t = true) (h3 : typedB t = true) (h4 : fitB psC t = true) (h5 : 0 ≤ p ∧ p < 2) (_h6 : evN psC p = evN psC p) (h7 : ¬ t.kind ≤ 8) (h8 : allB (lclB p) t = true) : lclF psC p 0 t = 0 := by
  have hc : checkF psC t = 0 := by
    unfold checkF
    rw [psC_valid, h1, h2, h3, h4]; rfl
  have hn : 0 ≤ evN psC p := by
    unfold evN; split <;> omega
  have hl : (psC.length : Int) = 2 := rfl
  unfold lclF
  rw [hc, if_neg (by decide), if_neg (by omega), if_neg h7, h8]; rfl
theorem conF_C : conF psC tsC = 0 := conF_zero ⟨psC_valid, rfl⟩ fun q hq => by
  have hq : q < 2 := hq
  rcases q with _ | _ | q
  · exact lclC rfl rfl rfl rfl (by decide) rfl (show ¬ (_ : Int) ≤ 8 from by simp [tsC, oneT, Pd.kind]) rfl
  · exact lclC rfl rfl rfl rfl (by decide) rfl (show ¬ (_ : Int) ≤ 8 from by simp [tsC, oneT, Pd.kind]) rfl
  · omega
theorem conF_D : conF psC tsD = 0 := conF_zero ⟨psC_valid, rfl⟩ fun q hq => by
  have hq : q < 2 := hq
  rcases q with _ | _ | q
  · exact lclC rfl rfl rfl rfl (by decide) rfl (show ¬ (_ : Int) ≤ 8 from by simp [tsD, oneT, Pd.kind]) rfl
  · exact lclC rfl rfl rfl rfl (by decide) rfl (show ¬ (_ : Int) ≤ 8 from by simp [tsD, oneT, Pd.kind]) rfl
  · omega
theorem run_C : stepsF (elimOf psC tsC) = [(0, 0, 0), (1, 0, 1), (0, 1, 3)] ∧ finF (elimOf psC tsC) = updN (updN (updN (fun _ => 0) 0 1) 1 2) 0 4 ∧ lostF (elimOf psC tsC) = true := by
  refine run_is (RunR.go (p := 0) rfl (by decide) (RunR.go (p := 1) rfl (by decide) (RunR.lost (p := 0) rfl (by decide))))
theorem run_D : ∃ fin, stepsF (elimOf psC tsD) = [(0, 0, 0)] ∧ finF (elimOf psC tsD) = fin ∧ lostF (elimOf psC tsD) = false ∧ fin 0 = 1 ∧ fin 1 = 0 := by
  obtain ⟨e1, e2, e3⟩ := run_is (E := elimOf psC tsD) (RunR.go (p := 0) rfl (by decide) (RunR.stop rfl))
  exact ⟨_, e1, e2, e3, rfl, rfl⟩
end Go.AL
end
section
/- The greatest closed counts below counts: receipts whose sends are missing are left out one by one. Plain laws. No condition. -/
namespace Go.AL
open Go Go.RowKit
set_option maxRecDepth 4000
def openN (ps : List Pr) : Nat → List Int → List Int
  | 0, c => c
  | n + 1, c => match missF ps c with
    | none => c
    | some x => openN ps n (c.set x.2.1.toNat (x.2.2 - 1))
def openF (ps : List Pr) (c : List Int) : List Int := openN ps (totC c) c
end Go.AL
end
section
/- What elimination finds: the least consistent cut whose counts are states in which the locals are true. Plain laws. No condition. -/
namespace Go.AL
open Go Go.RowKit
set_option maxRecDepth 4000
/-- An elimination in a trace, whatever its states' truths. -/
structure NeedOk (ps : List Pr) (E : Elim) : Prop where
  n : E.n = ps.length
  top : ∀ p (hp : p < ps.length), E.top p = ps[p].evs.length
  need : ∀ q k p, E.need q k p = cAt (closeF ps (stC ps.length q k)) p
/-- A consistent cut whose counts are states that are not excluded in themselves. -/
structure SatD (ps : List Pr) (E : Elim) (d : List Int) : Prop where
  len : d.length = ps.length
  rng : inRangeF ps d = true
  clo : closedF ps d = true
  ok : ∀ p, p < ps.length → E.ok p (cAt d p).toNat = true
section
variable {ps : List Pr} {E : Elim}
end
end Go.AL
end
section
/- The package conjunctive: the board of a trace and locals, the steps, the answer. No condition. -/
namespace Go.AL
open Go Go.RowKit
set_option maxRecDepth 4000
def anilp : AV := .v (.pointer none)
def startK (ps : List Pr) (ts : List Pd) (r : AV) (L : AHeap) : Prop :=
  (conF ps ts = 0 ∧ ∃ bb bn, ¬ bn = bb ∧ r = .tup [.lp bb 3 0 0, ai 0] ∧ L = boardL (elimOf ps ts) (fun _ => 0) bb bn) ∨ (conF ps ts ≠ 0 ∧ r = .tup [.v (.pointer none), ai (conF ps ts)] ∧ L = [])
def okK (E : Elim) (m : Nat) : List AV := (List.range m).map fun q => .sl 1 (okL E q)
theorem okK_len (E : Elim) (m : Nat) : (okK E m).length = m := by simp [okK]
theorem okK_succ (E : Elim) (m : Nat) : okK E (m + 1) = okK E m ++ [.sl 1 (okL E m)] := by unfold okK; rw [List.range_succ, List.map_append]; rfl
theorem truths_row {ps : List Pr} {ts : List Pd} {p : Nat} (hp : p < ts.length) (hpp : p < ps.length) : (truthsF ps p ts[p]).map ab = okL (elimOf ps ts) p := by
  rw [truthsF_nat hpp, List.map_map]
  unfold okL
  rw [show (elimOf ps ts).top p = ps[p].evs.length from nev_get hpp]
  refine List.map_congr_left fun k _ => ?_
  show ab _ = ab (match ts[p]? with | some t => lclT ps p t k | none => true)
  rw [List.getElem?_eq_getElem hp]
theorem conj_start (ps : List Pr) (hs : Sm ps) (ts : List Pd) (hz : ∀ t ∈ ts, szF t ≤ 1000000) (htl : ts.length ≤ 1000000) : MCalls Go.Proofs.Tryz.prog 78 [aTr ps, .sl 6 (ts.map aPd)] [] (startK ps ts) := by
  have h1 := trace_Valid ps hs
  have hl := hs.procs
  by_cases hv : validF ps = true ∧ ts.length = ps.length
  · have hvl : (ts.length : Int) = ps.length := by omega
    have hl1 := (valid_len hv.1).1
    rw [hv.1] at h1
    have hhit := fun p hp => conF_hit hv (p := p) hp
    have hzero := conF_zero hv
    have hnd := conj_needs ps hs hv.1 ts
    have hEn : (elimOf ps ts).n = ps.length := rfl
    have hrow := fun p (hp : p < ts.length) => truths_row (ps := ps) hp (by omega)
    have hB : ∀ f bb bn, boardL (elimOf ps ts) f bb bn = [(bb, .row 116 3 [.agg [.sl 1 (needT (elimOf ps ts)), .sl 1 (okM (elimOf ps ts)), .ls bn 1 0 (elimOf ps ts).n (elimOf ps ts).n]] 1), (bn, .row 3 1 (dnA (elimOf ps ts).n f) (elimOf ps ts).n)] := fun f bb bn => rfl
    unfold startK
    simp only [hB]
    clear hB
    generalize elimOf ps ts = E at *
    generalize conF ps ts = C at *
    refine MCalls.enter' 61 [.tmp 4, .tmp 5] [2, 8, 50] Go.Proofs.Tryz.func78 rfl rfl rfl rfl rfl (by simp) (AWp.of ?_); simp only [go_sem]
    repeat (first | ((with_reducible refine AWp.ofC ?_ ?_); (focus exact rfl); simp only [go_sem]) | ((with_reducible refine an ?_ ?_); focus exact Au))
    repeat ((with_reducible refine an ?_ ?_); focus exact As)
    refine (h1).val.use ?_; simp only [go_sem, hvl]
    repeat (first | ((with_reducible refine AWp.ofC ?_ ?_); (focus exact rfl); simp only [go_sem, hvl]) | ((with_reducible refine an ?_ ?_); focus exact Au))
    intro bn
    repeat (first | ((with_reducible refine AWp.ofC ?_ ?_); (focus exact rfl); simp only [go_sem]) | ((with_reducible refine an ?_ ?_); focus exact Au))
    intro bb g2
    have n1 : ¬ bb = bn := by omega
    have n2 : ¬ bn = bb := by omega
    repeat (first | ((with_reducible refine AWp.ofC ?_ ?_); (focus exact rfl); simp only [go_sem]) | ((with_reducible refine an ?_ ?_); focus exact Au))
    refine AWp.range' ts.length [] [2, 6, 27, 28] (fun p vs L => ∃ v Lq, L = Lq ++ [(bb, .row 116 3 [.agg [anil, v, .ls bn 1 0 ps.length ps.length]] 1), (bn, .row 3 1 (List.replicate ps.length (ai 0)) ps.length)] ∧ AppSt 69 1 (okK E p) v Lq ∧ (∀ x ∈ Lq, x.1 ≠ bb ∧ x.1 ≠ bn) ∧ ∀ q (hq : q < ts.length), q < p → lclF ps q 0 ts[q] = 0) (by omega) rfl rfl rfl ⟨anil, [], rfl, .nil, by simp, fun q hq h => by omega⟩ ?_ ?_
    · rintro p vs L hp - ⟨v, Lq, rfl, hA, hq, hJ⟩
      have hgt := getD_map (f := aPd) hp
      have htr := evaluate_Truths ps hs p ts[p] (hz _ (List.getElem_mem hp))
      have hro := hrow p hp
      have hh := hhit p hp hJ
      have hyl := okK_len E p
      rw [okK_succ]
      unfold aTruths at htr
      rw [Int.toNat_natCast, hro] at htr
      have hJ1 : lclF ps p 0 ts[p] = 0 → ∀ q (hq : q < ts.length), q < p + 1 → lclF ps q 0 ts[q] = 0 := fun e q hq h => by
        by_cases e2 : q = p
        · subst e2; exact e
        · exact hJ q hq (by omega)
      generalize lclF ps p 0 ts[p] = e at *
      generalize ts[p] = t at *
      generalize okL E p = ol at *
      generalize okK E p = ys at *
      obtain ⟨k0, n, pp, q0, s, l⟩ := t
      simp only [aPd_mk] at *
      have hfo := hA.fo
      by_cases he : e = 0
      · rw [if_pos he] at htr
        subst he
        rcases hA.inv with ⟨e1, rfl, rfl⟩ | ⟨bq, cap, rfl, rfl⟩
        · simp only [go_sem, List.nil_append]
          repeat (first | ((with_reducible refine AWp.ofC ?_ ?_); (focus exact rfl); simp only [go_sem, hgt]) | ((with_reducible refine an ?_ ?_); focus exact Au))
          intros
          repeat (first | ((with_reducible refine AWp.ofC ?_ ?_); (focus exact rfl); simp only [go_sem]) | ((with_reducible refine an ?_ ?_); focus exact Au))
          repeat ((with_reducible refine an ?_ ?_); focus exact As)
          refine (htr).val.use ?_; simp only [go_sem]
          repeat (first | ((with_reducible refine AWp.ofC ?_ ?_); (focus exact rfl); simp only [go_sem, n1]) | ((with_reducible refine an ?_ ?_); focus exact Au))
          intro b' cap' g8 g9 _
          have n3 : ¬ b' = bb ∧ ¬ b' = bn := by omega
          have n4 : ¬ bb = b' := by omega
          simp only [go_sem, n4]
          refine ⟨_, List.Sublist.refl _, .ls b' 1 0 1 cap', [(b', .row 69 1 [.sl 1 ol] cap')], rfl, ?_, ?_, hJ1 rfl⟩
          · rw [e1]; exact .row _ _ _
          · intro y hy; simp only [List.mem_singleton] at hy; subst hy; exact n3
        · have nq := hq (bq, .row 69 1 ys cap) (by simp)
          simp only at nq
          have nq1 : ¬ bb = bq := fun e => nq.1 e.symm
          have nq2 : ¬ bn = bq := fun e => nq.2 e.symm
          simp only [go_sem, List.cons_append, List.nil_append]
          repeat (first | ((with_reducible refine AWp.ofC ?_ ?_); (focus exact rfl); simp only [go_sem, hgt]) | ((with_reducible refine an ?_ ?_); focus exact Au))
          intros
          repeat (first | ((with_reducible refine AWp.ofC ?_ ?_); (focus exact rfl); simp only [go_sem]) | ((with_reducible refine an ?_ ?_); focus exact Au))
          repeat ((with_reducible refine an ?_ ?_); focus exact As)
          refine (htr).val.use ?_; simp only [go_sem]
          repeat (first | ((with_reducible refine AWp.ofC ?_ ?_); (focus exact rfl); simp only [go_sem, n1, nq, nq1]) | ((with_reducible refine an ?_ ?_); focus exact Au))
          intro b' cap' g8 g9 _
          have n3 : ¬ b' = bb ∧ ¬ b' = bn := by omega
          have n4 : ¬ bb = b' := by omega
          simp only [go_sem, n4]
          refine ⟨_, List.Sublist.refl _, .ls b' 1 0 (ys.length + 1) cap', [(b', .row 69 1 (ys ++ [.sl 1 ol]) cap')], rfl, ?_, ?_, hJ1 rfl⟩
          · have := AppSt.row (t := 69) (k := 1) b' (ys ++ [.sl 1 ol]) cap'
            simpa using this
          · intro y hy; simp only [List.mem_singleton] at hy; subst hy; exact n3
      · rw [if_neg he] at htr
        have hC := hh he
        rcases hA.inv with ⟨e1, rfl, rfl⟩ | ⟨bq, cap, rfl, rfl⟩
        · simp only [go_sem, List.nil_append]
          repeat (first | ((with_reducible refine AWp.ofC ?_ ?_); (focus exact rfl); simp only [go_sem, hgt]) | ((with_reducible refine an ?_ ?_); focus exact Au))
          intros
          repeat (first | ((with_reducible refine AWp.ofC ?_ ?_); (focus exact rfl); simp only [go_sem]) | ((with_reducible refine an ?_ ?_); focus exact Au))
          repeat ((with_reducible refine an ?_ ?_); focus exact As)
          refine (htr).val.use ?_; simp only [go_sem]
          repeat (first | ((with_reducible refine AWp.ofC ?_ ?_); (focus exact rfl); simp only [go_sem, he]) | ((with_reducible refine an ?_ ?_); focus exact Au))
          refine ret_sub [] (List.nil_sublist _) ?_
          simp only [go_sem]
          exact .inr ⟨by rw [hC]; exact he, by rw [hC]⟩
        · simp only [go_sem, List.cons_append, List.nil_append]
          repeat (first | ((with_reducible refine AWp.ofC ?_ ?_); (focus exact rfl); simp only [go_sem, hgt]) | ((with_reducible refine an ?_ ?_); focus exact Au))
          intros
          repeat (first | ((with_reducible refine AWp.ofC ?_ ?_); (focus exact rfl); simp only [go_sem]) | ((with_reducible refine an ?_ ?_); focus exact Au))
          repeat ((with_reducible refine an ?_ ?_); focus exact As)
          refine (htr).val.use ?_; simp only [go_sem]
          repeat (first | ((with_reducible refine AWp.ofC ?_ ?_); (focus exact rfl); simp only [go_sem, he]) | ((with_reducible refine an ?_ ?_); focus exact Au))
          refine ret_sub [] (List.nil_sublist _) ?_
          simp only [go_sem]
          exact .inr ⟨by rw [hC]; exact he, by rw [hC]⟩
    · rintro vs L - ⟨v, Lq, rfl, hA, hq, hJ⟩
      have hyl := okK_len E ts.length
      have hC := hzero fun q hq => hJ q hq hq
      have hfin : okK E ts.length = okM E := by unfold okK okM; rw [hEn, hv.2]
      rw [hfin] at hA hyl
      have hdn : List.replicate ps.length (ai 0) = dnA E.n (fun _ => 0) := by unfold dnA; apply List.ext_getElem (by simp; omega); intro i h1 h2; simp
      rcases hA.inv with ⟨e1, rfl, rfl⟩ | ⟨bq, cap, rfl, rfl⟩
      · rw [e1] at hyl; simp at hyl; omega
      · have nq := hq (bq, .row 69 1 (okM E) cap) (by simp)
        simp only at nq
        have nq1 : ¬ bb = bq := fun e => nq.1 e.symm
        have nq2 : ¬ bn = bq := fun e => nq.2 e.symm
        simp only [go_sem, List.cons_append, List.nil_append]
        repeat (first | ((with_reducible refine AWp.ofC ?_ ?_); (focus exact rfl); simp only [go_sem]) | ((with_reducible refine an ?_ ?_); focus exact Au))
        repeat ((with_reducible refine an ?_ ?_); focus exact As)
        refine (hnd).val.use ?_; simp only [go_sem, n1, nq1]
        repeat ((with_reducible refine an ?_ ?_); focus exact As)
        refine AWp.view (L' := [(bb, .row 116 3 [.agg [.sl 1 (needT E), .sl 1 (okM E), .ls bn 1 0 ps.length ps.length]] 1), (bn, .row 3 1 (List.replicate ps.length (ai 0)) ps.length)]) [true, false, false] [] ?_ (by simp) ?_
        · simp only [pickT, pickF]
          exact .row (Vws.cons (.mkAgg (Vws.cons (.refl _) (Vws.cons (Vw.ofLs (if_pos rfl) rfl) (Vws.refl _)))) .nil) (.refl _)
        · simp only [go_sem]
          repeat (first | ((with_reducible refine AWp.ofC ?_ ?_); (focus exact rfl); simp only [go_sem]) | ((with_reducible refine an ?_ ?_); focus exact Au))
          refine ret_own ?_
          simp only [go_sem]
          refine ⟨hC, bb, bn, n2, rfl, ?_⟩
          rw [hdn, hEn]
  · have hC := conF_bad hv
    unfold startK
    rw [hC]
    by_cases hv1 : validF ps = true
    · have hvl : ¬ (ts.length : Int) = ps.length := fun e => hv ⟨hv1, by omega⟩
      rw [hv1] at h1
      refine MCalls.enter' 61 [.tmp 4, .tmp 5] [2, 8, 50] Go.Proofs.Tryz.func78 rfl rfl rfl rfl rfl (by simp) (AWp.of ?_); simp only [go_sem]
      repeat (first | ((with_reducible refine AWp.ofC ?_ ?_); (focus exact rfl); simp only [go_sem]) | ((with_reducible refine an ?_ ?_); focus exact Au))
      repeat ((with_reducible refine an ?_ ?_); focus exact As)
      refine (h1).val.use ?_; simp only [go_sem, hvl]
      repeat (first | ((with_reducible refine AWp.ofC ?_ ?_); (focus exact rfl); simp only [go_sem]) | ((with_reducible refine an ?_ ?_); focus exact Au))
      refine ret_own ?_
      simp only [go_sem]
      exact .inr (by decide)
    · rw [show validF ps = false by simpa using hv1] at h1
      refine MCalls.enter' 61 [.tmp 4, .tmp 5] [2, 8, 50] Go.Proofs.Tryz.func78 rfl rfl rfl rfl rfl (by simp) (AWp.of ?_); simp only [go_sem]
      repeat (first | ((with_reducible refine AWp.ofC ?_ ?_); (focus exact rfl); simp only [go_sem]) | ((with_reducible refine an ?_ ?_); focus exact Au))
      repeat ((with_reducible refine an ?_ ?_); focus exact As)
      refine (h1).val.use ?_; simp only [go_sem]
      repeat (first | ((with_reducible refine AWp.ofC ?_ ?_); (focus exact rfl); simp only [go_sem]) | ((with_reducible refine an ?_ ?_); focus exact Au))
      refine ret_own ?_
      simp only [go_sem]
      exact .inr (by decide)
end Go.AL
end
section
/- The package conjunctive: what Possibly and Steps return. No condition. -/
namespace Go.AL
open Go Go.RowKit
set_option maxRecDepth 4000
theorem lostB_fin (E : Elim) : lostB E (finF E) = lostF E := by
  have h := run_lost (run_spec E) (inE_zero E)
  cases hl : lostF E with
  | true =>
    obtain ⟨q, hq, hlt⟩ := h.1 hl
    exact lostB_true hq hlt
  | false =>
    refine List.any_eq_false.2 fun q hq => ?_
    rw [hl] at h
    have h2 : ¬ ∃ q, q < E.n ∧ E.top q < finF E q := fun x => by cases h.2 x
    intro hd
    exact h2 ⟨q, List.mem_range.1 hq, of_decide_eq_true hd⟩
theorem run_small {E : Elim} (hE : SmE E) {now fin : Nat → Nat} {st : List Stp} {l : Bool} (h : RunR E now st fin l) (hI : InE E now) : ∀ q, q < E.n → fin q ≤ 1000001 := by
  induction h with
  | stop h => exact inE_small hE hI
  | lost h hl => exact fun q hq => (step_lost hI h hl).2 q hq (hE.top q)
  | go h hl hr ih => exact ih (inE_step hI hl)
noncomputable def aPossR (ps : List Pr) (ts : List Pd) : AV := if conF ps ts = 0 then .tup [aAns (ansOf (elimOf ps ts)), ai 0] else .tup [aAns noAns, ai (conF ps ts)]
theorem lkq {Lq L : AHeap} {b : Nat} (h : ∀ x ∈ Lq, x.1 ≠ b) : lk (Lq ++ L) b = lk L b := by
  induction Lq with
  | nil => rfl
  | cons y Lq ih =>
    obtain ⟨yb, yx⟩ := y
    have h0 : ¬ b = yb := fun e => h (yb, yx) (by simp) e.symm
    show (if b = yb then _ else _) = _
    rw [if_neg h0]
    exact ih fun x hx => h x (List.mem_cons_of_mem _ hx)
theorem conj_PossiblyK (ps : List Pr) (hs : Sm ps) (ts : List Pd) (hz : ∀ t ∈ ts, szF t ≤ 1000000) (htl : ts.length ≤ 1000000) (K : AV → AHeap → Prop)
    (k1 : conF ps ts = 0 → lostF (elimOf ps ts) = true → ∀ v Lq, AppSt 77 3 ((stepsF (elimOf ps ts)).map aStp) v Lq → K (.tup [.agg [ai 1, ab false, ai 4, anil, anil, anil, v, ai 0], ai 0]) Lq)
    (k2 : conF ps ts = 0 → lostF (elimOf ps ts) = false → ∀ b, K (.tup [.agg [ai 1, ab true, ai 1, .ls b 1 0 (elimOf ps ts).n (elimOf ps ts).n, anil, anil, anil, ai 0], ai 0]) [(b, .row 3 1 (dnA (elimOf ps ts).n (finF (elimOf ps ts))) (elimOf ps ts).n)])
    (k3 : conF ps ts ≠ 0 → K (.tup [.agg [ai 0, ab false, ai 0, anil, anil, anil, anil, ai 0], ai (conF ps ts)]) []) : MCalls Go.Proofs.Tryz.prog 30 [aTr ps, .sl 6 (ts.map aPd)] [] K := by
  have h1 := conj_start ps hs ts hz htl
  have hE := elim_sm hs ts
  unfold startK at h1
  have hl := hs.procs
  have hEn : (elimOf ps ts).n = ps.length := rfl
  have hrun := run_spec (elimOf ps ts)
  have hlo := board_lost (elimOf ps ts) hE (finF (elimOf ps ts)) (run_small hE hrun (inE_zero _))
  rw [lostB_fin] at hlo
  have hst := fun bb bn hb => board_steps (elimOf ps ts) hE (fun _ => 0) (finF (elimOf ps ts)) (inE_zero _) (stepsF (elimOf ps ts)) (lostF (elimOf ps ts)) hrun bb bn hb
  have hB : ∀ f bb bn, boardL (elimOf ps ts) f bb bn = [(bb, .row 116 3 [.agg [.sl 1 (needT (elimOf ps ts)), .sl 1 (okM (elimOf ps ts)), .ls bn 1 0 (elimOf ps ts).n (elimOf ps ts).n]] 1), (bn, .row 3 1 (dnA (elimOf ps ts).n f) (elimOf ps ts).n)] := fun f bb bn => rfl
  generalize elimOf ps ts = E at *
  generalize conF ps ts = C at *
  generalize stepsF E = st at *
  generalize finF E = fin at *
  generalize lostF E = lo at *
  refine MCalls.enter' 30 [.cell 4 52, .tmp 5] [2] Go.Proofs.Tryz.func30 rfl rfl rfl rfl rfl (by simp) (AWp.of ?_); simp only [go_sem]
  intro b4
  repeat (first | ((with_reducible refine AWp.ofC ?_ ?_); (focus exact rfl); simp only [go_sem]) | ((with_reducible refine an ?_ ?_); focus exact Au))
  refine MVal.pass (Lf := []) (Li := []) (Lr := [(b4, .row 52 8 [.agg [ai 0, ab false, ai 0, anil, anil, anil, anil, ai 0]] 1)]) (by simp) (Vws.refl _) h1.val ?_
  rintro r L1 (⟨rfl, bb, bn, hb, rfl, rfl⟩ | ⟨hC, rfl, rfl⟩)
  · refine ⟨_, .refl _, ?_⟩
    simp only [go_sem]
    refine AWp.nodup fun hnd => ?_
    have hb' : ¬ bb = bn := fun e => hb e.symm
    have hn4 : (¬ bb = b4 ∧ ¬ b4 = bb) ∧ (¬ bn = b4 ∧ ¬ b4 = bn) := by
      simp only [hB, List.cons_append, List.nil_append, List.map_cons, List.map_nil, List.nodup_cons, List.mem_cons, List.not_mem_nil, or_false, not_or] at hnd
      exact ⟨⟨hnd.1.2, fun e => hnd.1.2 e.symm⟩, ⟨hnd.2.1, fun e => hnd.2.1 e.symm⟩⟩
    clear hnd
    repeat (first | ((with_reducible refine AWp.ofC ?_ ?_); (focus exact rfl); simp only [go_sem]) | ((with_reducible refine an ?_ ?_); focus exact Au))
    refine MVal.pass (Lf := []) (Li := boardL E (fun _ => 0) bb bn) (Lr := [(b4, .row 52 8 [.agg [ai 0, ab false, ai 0, anil, anil, anil, anil, ai 0]] 1)]) (.refl _) (Vws.refl _) (hst bb bn hb).val ?_
    rintro r L1 ⟨Lq, hA, rfl, hq⟩
    refine ⟨_, .refl _, ?_⟩
    have hfo := hA.fo
    simp only [go_sem, hfo]
    refine AWp.nodup fun hnd => ?_
    have hq4 : ∀ x ∈ Lq, x.1 ≠ b4 := fun x hx e => by
      rw [List.append_assoc, List.map_append, List.nodup_append] at hnd
      refine hnd.2.2 _ (List.mem_map_of_mem hx) b4 ?_ e
      simp
    clear hnd
    have hvw : Vws ((Lq ++ boardL E fin bb bn) ++ [(b4, .row 52 8 [.agg [ai 0, ab false, ai 0, anil, anil, anil, anil, ai 0]] 1)]) [.lp bb 3 0 0] [aBoard E fin] := by
      rw [List.append_assoc]
      refine board_viewL (bn := bn) ?_ ?_ []
      · rw [lkq fun x hx => (hq x hx).1, hB]; simp only [List.cons_append, List.nil_append, lk, if_true]
      · rw [lkq fun x hx => (hq x hx).2, hB]; simp only [List.cons_append, List.nil_append, lk, hb, if_false, if_true]
    repeat (first | ((with_reducible refine AWp.ofC ?_ ?_); (focus exact rfl); simp only [go_sem]) | ((with_reducible refine an ?_ ?_); focus exact Au))
    refine (PC.view hvw hlo (Own.v _) ?_).val
    rw [hB] at *
    cases lo with
    | true =>
      rcases hA.inv with ⟨e1, rfl, rfl⟩ | ⟨bq, cap, rfl, rfl⟩
      · simp only [go_sem, List.nil_append]
        repeat (first | ((with_reducible refine AWp.ofC ?_ ?_); (focus exact rfl); simp only [go_sem, hn4]) | ((with_reducible refine an ?_ ?_); focus exact Au))
        refine ret_sub [] (List.nil_sublist _) ?_
        simp only [go_sem, hn4]
        exact k1 rfl rfl _ _ hA
      · have nq4 := hq4 (bq, .row 77 3 (st.map aStp) cap) (by simp)
        simp only at nq4
        have nq4' : ¬ b4 = bq := fun e => nq4 e.symm
        simp only [go_sem, List.cons_append, List.nil_append]
        repeat (first | ((with_reducible refine AWp.ofC ?_ ?_); (focus exact rfl); simp only [go_sem, hn4, nq4']) | ((with_reducible refine an ?_ ?_); focus exact Au))
        refine ret_sub [(bq, .row 77 3 (st.map aStp) cap)] (by simp) ?_
        simp only [go_sem, hn4, nq4']
        have := k1 rfl rfl _ _ hA
        simpa using this
    | false =>
      rcases hA.inv with ⟨e1, rfl, rfl⟩ | ⟨bq, cap, rfl, rfl⟩
      · simp only [go_sem, List.nil_append]
        repeat (first | ((with_reducible refine AWp.ofC ?_ ?_); (focus exact rfl); simp only [go_sem, hn4, hb']) | ((with_reducible refine an ?_ ?_); focus exact Au))
        refine ret_sub [(bn, .row 3 1 (dnA E.n fin) E.n)] (by simp) ?_
        simp only [go_sem, hn4]
        exact k2 rfl rfl _
      · have nq4 := hq4 (bq, .row 77 3 (st.map aStp) cap) (by simp)
        simp only at nq4
        have nq4' : ¬ b4 = bq := fun e => nq4 e.symm
        have nq := hq (bq, .row 77 3 (st.map aStp) cap) (by simp)
        simp only at nq
        have nqa : ¬ bb = bq ∧ ¬ bn = bq := ⟨fun e => nq.1 e.symm, fun e => nq.2 e.symm⟩
        simp only [go_sem, List.cons_append, List.nil_append]
        repeat (first | ((with_reducible refine AWp.ofC ?_ ?_); (focus exact rfl); simp only [go_sem, hn4, nq4', hb', nqa]) | ((with_reducible refine an ?_ ?_); focus exact Au))
        refine ret_sub [(bn, .row 3 1 (dnA E.n fin) E.n)] (by simp) ?_
        simp only [go_sem, hn4, nq4']
        exact k2 rfl rfl _
  · refine ⟨_, .refl _, ?_⟩
    simp only [go_sem, List.nil_append]
    repeat (first | ((with_reducible refine AWp.ofC ?_ ?_); (focus exact rfl); simp only [go_sem, hC]) | ((with_reducible refine an ?_ ?_); focus exact Au))
    refine ret_sub [] (List.nil_sublist _) ?_
    simp only [go_sem]
    exact k3 hC
end Go.AL
end
section
/- The law of layer 37: the chapter's example. No condition. -/
namespace Go.AL
open Go Go.RowKit
set_option maxRecDepth 4000
theorem law37_ex1 (n : Int) : PC Go.Proofs.Tryz.prog 117 [ai n] (.sl 2 [.agg [ai 0, ai n]]) := by
  refine PC.enter 6 [.tmp 2] [5] Go.Proofs.Tryz.func117 rfl rfl rfl rfl rfl (by simp) (AWp.of ?_); simp only [go_sem]
  repeat (first | ((with_reducible refine AWp.ofC ?_ ?_); (focus exact rfl); simp only [go_sem]) | ((with_reducible refine an ?_ ?_); focus exact Au))
  refine ret_eq ?_; simp only [go_sem]
theorem law37_ex2 (p : Int) (s : ByteArray) : PC Go.Proofs.Tryz.prog 118 [ai p, astr s] (aPd (oneT p s)) := by
  unfold oneT
  simp only [aPd_mk, List.map_cons, List.map_nil]
  refine PC.enter 11 [.cell 4 27] [9] Go.Proofs.Tryz.func118 rfl rfl rfl rfl rfl (by simp) (AWp.of ?_); simp only [go_sem]
  intro b4
  repeat (first | ((with_reducible refine AWp.ofC ?_ ?_); (focus exact rfl); simp only [go_sem]) | ((with_reducible refine an ?_ ?_); focus exact Au))
  refine ret_view [] ?_; simp only [go_sem]
  refine .mkAgg ?_
  refine Vws.cons (.refl _) (Vws.cons (.refl _) (Vws.cons (.refl _) (Vws.cons (.refl _) (Vws.cons (.refl _) (Vws.cons (Vw.mkSl ?_) .nil)))))
  refine Vws.cons (.mkAgg ?_) (Vws.cons (.mkAgg ?_) .nil)
  · exact Vws.cons (.refl _) (Vws.cons (.refl _) (Vws.cons (.refl _) (Vws.cons (.refl _) (Vws.cons (.refl _) (Vws.cons (.nil 6) .nil)))))
  · exact Vws.cons (.refl _) (Vws.cons (.refl _) (Vws.cons (.refl _) (Vws.cons (.refl _) (Vws.cons (.refl _) (Vws.cons (.nil 6) .nil)))))
theorem law37_example : MCalls Go.Proofs.Tryz.prog 57 [] [] fun r L => ∃ b, r = .tup [aTr psC, .ls b 6 0 2 2] ∧ L = [(b, .row 27 6 (tsC.map aPd) 2)] := by
  have e1 := law37_ex1 1
  have e0 := law37_ex1 0
  have p0 := law37_ex2 0 ⟨#[120]⟩
  have p1 := law37_ex2 1 ⟨#[121]⟩
  refine MCalls.enter' 32 [.cell 0 24, .tmp 1] [3, 6, 14, 17, 22, 24] Go.Proofs.Tryz.func57 rfl rfl rfl rfl rfl (by simp) (AWp.of ?_); simp only [go_sem]
  intro b0
  repeat (first | ((with_reducible refine AWp.ofC ?_ ?_); (focus exact rfl); simp only [go_sem]) | ((with_reducible refine an ?_ ?_); focus exact Au))
  repeat ((with_reducible refine an ?_ ?_); focus exact As)
  refine (e1).val.use ?_; simp only [go_sem]
  repeat ((with_reducible refine an ?_ ?_); focus exact As)
  refine (e0).val.use ?_; simp only [go_sem]
  repeat ((with_reducible refine an ?_ ?_); focus exact As)
  refine (e1).val.use ?_; simp only [go_sem]
  repeat (first | ((with_reducible refine AWp.ofC ?_ ?_); (focus exact rfl); simp only [go_sem]) | ((with_reducible refine an ?_ ?_); focus exact Au))
  intro b3 _
  refine AWp.view [] [(3, .rp 1 [aTr psC] 0 0)] (LVw.refl _) ?_ ?_
  · intro p hp
    simp only [List.mem_singleton] at hp
    subst hp
    show Vw [] _ (.rp 1 [aTr psC] 0 0)
    simp only [go_sem]
    refine Vw.mkRp ?_
    repeat (first | exact Vw.refl _ | exact Vws.nil | exact Vw.nil _ | refine Vws.cons ?_ ?_ | refine Vw.mkAgg ?_ | refine Vw.mkSl ?_)
  have hT : aTr psC = .agg [.sl 3 (psC.map aPr)] := rfl
  have hP : tsC.map aPd = [aPd (oneT 0 ⟨#[120]⟩), aPd (oneT 1 ⟨#[121]⟩)] := rfl
  rw [hT, hP]
  generalize psC.map aPr = T at *
  have hk0 : ∃ l, aPd (oneT 0 ⟨#[120]⟩) = .agg [ai 9, ai 0, ai 0, ai 0, astr ByteArray.empty, .sl 6 l] := ⟨_, aPd_mk _ _ _ _ _ _⟩
  have hk1 : ∃ l, aPd (oneT 1 ⟨#[121]⟩) = .agg [ai 9, ai 0, ai 0, ai 0, astr ByteArray.empty, .sl 6 l] := ⟨_, aPd_mk _ _ _ _ _ _⟩
  obtain ⟨l0, hk0⟩ := hk0
  obtain ⟨l1, hk1⟩ := hk1
  rw [hk0] at p0 ⊢
  rw [hk1] at p1 ⊢
  refine AWp.only [0, 2, 3] ?_
  simp only [go_sem]
  repeat (first | ((with_reducible refine AWp.ofC ?_ ?_); (focus exact rfl); simp only [go_sem]) | ((with_reducible refine an ?_ ?_); focus exact Au))
  refine AWp.seq ?_
  refine AWp.mix mixed [0, 1, 2, 3, 4] (.step 5 (.step 6 (.step 7 .done .done) .done) (.step 6 (.step 5 (.step 7 .done .done) .done) .done)) (by kernel_rfl) ?_; simp only [go_sem]
  repeat ((with_reducible refine an ?_ ?_); focus exact As)
  refine GCall.use (_) (fun _ => ⟨At, (p0).val.use ⟨rfl, rfl⟩⟩) ?_; simp only [go_sem]
  repeat ((with_reducible refine an ?_ ?_); focus exact As)
  refine GCall.use (_) (fun _ => ⟨At, (p1).val.use ⟨rfl, rfl⟩⟩) ?_; simp only [go_sem]
  refine ⟨fun b hb => ?_, fun b hb => ?_⟩
  all_goals
    have n1 : ¬ b0 = b := by omega
    have n2 : ¬ b = b0 := by omega
    (try simp only [go_sem, n1])
    refine AWp.of ?_
    (try simp only [go_sem])
    refine ret_sub [(b, .row 27 6 [.agg [ai 9, ai 0, ai 0, ai 0, astr ByteArray.empty, .sl 6 l0], .agg [ai 9, ai 0, ai 0, ai 0, astr ByteArray.empty, .sl 6 l1]] 2)] (by simp) ?_
    simp only [go_sem, n1]
    exact ⟨b, rfl, rfl⟩
end Go.AL
end
section
/- Equal lists of stretches; the law of layer 37: awake. No condition. -/
namespace Go.AL
open Go Go.RowKit
set_option maxRecDepth 4000
theorem ref37_SameSpans (a b : List (Int × Int × Int)) (ha : a.length ≤ 9223372036854775806) (hb : b.length ≤ 9223372036854775806) : PC Go.Proofs.Tryz.prog 16 [aSps a, aSps b] (ab (decide (a = b))) := by
  by_cases hl : a.length = b.length
  · have hli : (a.length : Int) = b.length := by omega
    have h0 : ∀ i (hi : i < a.length), a[i] ≠ b[i]'(by omega) → decide (a = b) = false := fun i hi h => decide_eq_false fun e => h (by subst e; rfl)
    have h1 : (∀ i (hi : i < a.length), a[i] = b[i]'(by omega)) → decide (a = b) = true := fun h => decide_eq_true (List.ext_getElem hl fun i h1 h2 => h i h1)
    generalize decide (a = b) = B at *
    unfold aSps
    refine PC.enter 26 [.tmp 4] [] Go.Proofs.Tryz.func16 rfl rfl rfl rfl rfl (by simp) (AWp.of ?_); simp only [go_sem]
    repeat (first | ((with_reducible refine AWp.ofC ?_ ?_); (focus exact rfl); simp only [go_sem, hli]) | ((with_reducible refine an ?_ ?_); focus exact Au))
    refine AWp.block (AWp.count 5 a.length [] [0, 1] (fun i vs L => L = [] ∧ ∀ j (hj : j < a.length), j < i → a[j] = b[j]'(by omega)) rfl rfl ⟨rfl, fun j hj h => by omega⟩ ?_)
    rintro i vs L hi - ⟨rfl, hJ⟩
    simp only [go_sem]
    repeat (first | ((with_reducible refine AWp.ofC ?_ ?_); (focus exact rfl); simp only [go_sem, hli]) | ((with_reducible refine an ?_ ?_); focus exact Au))
    refine ⟨fun h2 => ?_, fun h2 => ?_⟩
    · have hia : i < a.length := by omega
      have hib : i < b.length := by omega
      have ga : (a.map aSp).getD i .any = .agg [ai a[i].1, ai a[i].2.1, ai a[i].2.2] := getD_map (f := aSp) hia
      have gb : (b.map aSp).getD i .any = .agg [ai b[i].1, ai b[i].2.1, ai b[i].2.2] := getD_map (f := aSp) hib
      have h0 := h0 i hia
      have hJ2 : a[i] = b[i] → ∀ j (hj : j < a.length), j < i + 1 → a[j] = b[j]'(by omega) := fun e j hj h => by
        by_cases ej : j = i
        · subst ej; exact e
        · exact hJ j hj (by omega)
      generalize a[i] = x at *
      generalize b[i] = y at *
      obtain ⟨x1, x2, x3⟩ := x
      obtain ⟨y1, y2, y3⟩ := y
      simp only at ga gb
      refine AWp.seq (AWp.block (AWp.seq ?_))
      refine AWp.mix mixed [0, 1, 2, 3, 4, 5, 6, 7, 8] .done (by kernel_rfl) ?_; simp only [go_sem, ga, gb]
      repeat ((with_reducible refine an ?_ ?_); focus exact As)
      by_cases he : x1 = y1 ∧ x2 = y2 ∧ x3 = y3
      · obtain ⟨rfl, rfl, rfl⟩ := he
        simp only [decide_true, Bool.and_true, Bool.not_true, go_sem]
        repeat (first | ((with_reducible refine AWp.ofC ?_ ?_); (focus exact rfl); simp only [go_sem]) | ((with_reducible refine an ?_ ?_); focus exact Au))
        exact ⟨_, List.Sublist.refl _, rfl, hJ2 rfl⟩
      · have hd : (decide (x1 = y1) && (decide (x2 = y2) && decide (x3 = y3))) = false := by
          rw [← Bool.decide_and, ← Bool.decide_and]; exact decide_eq_false he
        have hB := h0 (fun e => by injection e with e1 e2; injection e2 with e2 e3; exact he ⟨e1, e2, e3⟩)
        subst hB
        repeat (first | ((with_reducible refine AWp.ofC ?_ ?_); (focus exact rfl); simp only [go_sem, hd]) | ((with_reducible refine an ?_ ?_); focus exact Au))
        refine ret_eq ?_; simp only [go_sem]
    · repeat (first | ((with_reducible refine AWp.ofC ?_ ?_); (focus exact rfl); simp only [go_sem]) | ((with_reducible refine an ?_ ?_); focus exact Au))
      refine ret_eq ?_; simp only [go_sem]
      rw [h1 fun j hj => hJ j hj (by omega)]
  · have hli : ¬ (a.length : Int) = b.length := by omega
    have hd : decide (a = b) = false := decide_eq_false fun e => hl (by rw [e])
    rw [hd]
    unfold aSps
    refine PC.enter 26 [.tmp 4] [] Go.Proofs.Tryz.func16 rfl rfl rfl rfl rfl (by simp) (AWp.of ?_); simp only [go_sem]
    repeat (first | ((with_reducible refine AWp.ofC ?_ ?_); (focus exact rfl); simp only [go_sem, hli]) | ((with_reducible refine an ?_ ?_); focus exact Au))
    refine ret_eq ?_; simp only [go_sem]
theorem AppSt.ownSt {st : List Stp} {v : AV} {L : AHeap} (h : AppSt 77 3 (st.map aStp) v L) : Own v ∧ ∀ x ∈ L, OwnB x.2 := h.own fun y hy => by
  obtain ⟨s, _, rfl⟩ := List.mem_map.1 hy
  refine ⟨Own.agg fun z hz => ?_, fun c hc => ?_⟩
  · simp only [List.mem_cons, List.not_mem_nil, or_false] at hz
    rcases hz with rfl | rfl | rfl <;> exact Own.v _
  · simp only [aStp, AV.cells, List.mem_cons, List.not_mem_nil, or_false] at hc
    rcases hc with rfl | rfl | rfl <;> exact Own.v _
theorem Own.tup2 {a b : AV} (h1 : Own a) (h2 : Own b) : Own (.tup [a, b]) := Own.tup fun y hy => by
  simp only [List.mem_cons, List.not_mem_nil, or_false] at hy
  rcases hy with rfl | rfl
  · exact h1
  · exact h2
theorem law37_awake : PC Go.Proofs.Tryz.prog 11 [] (ab true) := by
  have hz : ∀ ts : List Pd, ts = tsC ∨ ts = tsD → ∀ t ∈ ts, szF t ≤ 1000000 := fun ts h t ht => by
    rcases h with rfl | rfl <;> simp only [tsC, tsD, List.mem_cons, List.not_mem_nil, or_false] at ht <;> rcases ht with rfl | rfl <;> decide
  have h1 := conj_PossiblyK psC psC_sm tsC (hz _ (.inl rfl)) (by decide) (fun r L => ∃ v, AppSt 77 3 (([(0, 0, 0), (1, 0, 1), (0, 1, 3)] : List Stp).map aStp) v L ∧ r = .tup [.agg [ai 1, ab false, ai 4, anil, anil, anil, v, ai 0], ai 0])
    (fun _ _ v Lq hA => ⟨v, by rw [run_C.1] at hA; exact hA, rfl⟩) (fun _ h => by rw [run_C.2.2] at h; cases h) (fun h => absurd conF_C h)
  obtain ⟨fin, r1, r2, r3, r4, r5⟩ := run_D
  have h2 := conj_PossiblyK psC psC_sm tsD (hz _ (.inr rfl)) (by decide) (fun r L => ∃ b, r = .tup [.agg [ai 1, ab true, ai 1, .ls b 1 0 2 2, anil, anil, anil, ai 0], ai 0] ∧ L = [(b, .row 3 1 [ai 1, ai 0] 2)])
    (fun _ h => by rw [r3] at h; cases h) (fun _ _ b => ⟨b, rfl, by
      rw [r2]
      show [(b, ABlk.row 3 1 [ai (fin 0), ai (fin 1)] 2)] = _
      rw [r4, r5]; rfl⟩) (fun h => absurd conF_D h)
  have hT : aTr psC = .agg [.sl 3 (psC.map aPr)] := rfl
  have hx := law37_example
  rw [hT] at h1 h2 hx
  generalize psC.map aPr = T at *
  have hP : tsC.map aPd = [aPd (oneT 0 ⟨#[120]⟩), aPd (oneT 1 ⟨#[121]⟩)] := rfl
  have hD : tsD.map aPd = [aPd (oneT 0 ⟨#[120]⟩), .agg [ai 13, ai 0, ai 0, ai 0, astr ByteArray.empty, .sl 6 []]] := by
    show [aPd (oneT 0 ⟨#[120]⟩), aPd (.mk 13 0 0 0 ByteArray.empty [])] = _
    rw [aPd_mk]; rfl
  rw [hP] at h1 hx
  rw [hD] at h2
  clear hP hD
  generalize aPd (oneT 0 ⟨#[120]⟩) = P0 at *
  have hk1 : ∃ l, aPd (oneT 1 ⟨#[121]⟩) = .agg [ai 9, ai 0, ai 0, ai 0, astr ByteArray.empty, .sl 6 l] := ⟨_, aPd_mk _ _ _ _ _ _⟩
  obtain ⟨l1, hk1⟩ := hk1
  rw [hk1] at h1 hx
  have hs1 := ref37_SameSpans [(0, 0, 0), (1, 0, 1), (0, 1, 3)] [(0, 0, 0), (1, 0, 1), (0, 1, 3)] (by decide) (by decide)
  have hi1 := ints_equal [1, 0] [1, 0] (by decide)
  rw [decide_eq_true rfl] at hs1 hi1
  refine PC.enter 59 [.tmp 0] [1, 3, 5, 34, 56] Go.Proofs.Tryz.func11 rfl rfl rfl rfl rfl (by simp) (AWp.of ?_); simp only [go_sem]
  repeat (first | ((with_reducible refine AWp.ofC ?_ ?_); (focus exact rfl); simp only [go_sem]) | ((with_reducible refine an ?_ ?_); focus exact Au))
  refine hx.val.mono ?_
  rintro r L ⟨b, rfl, rfl⟩
  simp only [go_sem]
  intro b1 g1
  repeat (first | ((with_reducible refine AWp.ofC ?_ ?_); (focus exact rfl); simp only [go_sem]) | ((with_reducible refine an ?_ ?_); focus exact Au))
  refine (MCalls.viewed (Vws.cons (.refl _) (Vws.cons (Vw.ofLs (t := 27) (xs := [P0, .agg [ai 9, ai 0, ai 0, ai 0, astr ByteArray.empty, .sl 6 l1]]) (cap := 2) (by simp only [lk, if_true]) rfl) .nil)) h1 ?_).val.mono ?_
  · rintro r L1 ⟨v, hA, rfl⟩
    refine ⟨Own.tup2 (Own.agg fun y hy => ?_) (Own.v _), hA.ownSt.2⟩
    simp only [List.mem_cons, List.not_mem_nil, or_false] at hy
    rcases hy with rfl | rfl | rfl | rfl | rfl | rfl | rfl | rfl
    all_goals first | exact Own.v _ | exact hA.ownSt.1
  rintro r L ⟨L1, rfl, v, hA, rfl⟩
  rcases hA.inv with ⟨e1, _, _⟩ | ⟨bq, cap, rfl, rfl⟩
  · cases e1
  simp only [go_sem, List.cons_append, List.nil_append]
  intro b3 g3 g4
  refine AWp.view [true, false] [(3, .rp 8 [.agg [ai 1, ab false, ai 4, anil, anil, anil, aSps [(0, 0, 0), (1, 0, 1), (0, 1, 3)], ai 0]] 0 0)] (LVw.refl _) ?_ ?_
  · intro p hp
    simp only [List.mem_singleton] at hp
    subst hp
    simp only [go_sem]
    refine Vw.mkRp (Vws.cons (.mkAgg ?_) .nil)
    refine Vws.cons (.refl _) (Vws.cons (.refl _) (Vws.cons (.refl _) (Vws.cons (.refl _) (Vws.cons (.refl _) (Vws.cons (.refl _) (Vws.cons ?_ (.refl _)))))))
    exact Vw.ofLs (t := 77) (cap := cap) (by first | (simp only [lk, if_true]; done) | (simp only [lk, if_true]; rfl)) rfl
  have hsp : aSps [(0, 0, 0), (1, 0, 1), (0, 1, 3)] = .sl 3 [aSp (0, 0, 0), aSp (1, 0, 1), aSp (0, 1, 3)] := rfl
  rw [hsp] at hs1 ⊢
  have hq1 : aSp (0, 0, 0) = .agg [ai 0, ai 0, ai 0] := rfl
  have hq2 : aSp (1, 0, 1) = .agg [ai 1, ai 0, ai 1] := rfl
  have hq3 : aSp (0, 1, 3) = .agg [ai 0, ai 1, ai 3] := rfl
  rw [hq1, hq2, hq3] at hs1 ⊢
  simp only [pickF, go_sem]
  repeat (first | ((with_reducible refine AWp.ofC ?_ ?_); (focus exact rfl); simp only [go_sem]) | ((with_reducible refine an ?_ ?_); focus exact Au))
  repeat ((with_reducible refine an ?_ ?_); focus exact As)
  refine GCall.use (ab true) (fun _ => ⟨At, (hs1).val.use ⟨rfl, rfl⟩⟩) ?_; simp only [go_sem]
  repeat ((with_reducible refine an ?_ ?_); focus exact As)
  repeat (first | ((with_reducible refine AWp.ofC ?_ ?_); (focus exact rfl); simp only [go_sem]) | ((with_reducible refine an ?_ ?_); focus exact Au))
  refine (MCalls.viewed (Vws.cons (.refl _) (Vws.cons (.ls (t := 27) (xs := [P0, .agg [ai 13, ai 0, ai 0, ai 0, .v (.string { data := #[] }), anil]]) (cap := 2) (by simp only [lk, if_true]) (by simp) (by simp) fun i x y hx hy => ?_) .nil)) h2 ?_).val.mono ?_
  · rcases i with _ | _ | i
    · cases hx; cases hy; exact .refl _
    · cases hx; cases hy
      exact .mkAgg (Vws.cons (.refl _) (Vws.cons (.refl _) (Vws.cons (.refl _) (Vws.cons (.refl _) (Vws.cons (.refl _) (Vws.cons (.nil 6) .nil))))))
    · cases hy
  · rintro r L1 ⟨b', rfl, rfl⟩
    refine ⟨Own.tup2 (Own.agg fun y hy => ?_) (Own.v _), fun x hx => ?_⟩
    · simp only [List.mem_cons, List.not_mem_nil, or_false] at hy
      rcases hy with rfl | rfl | rfl | rfl | rfl | rfl | rfl | rfl
      all_goals first | exact Own.v _ | exact Own.ls _ _ _ _ _
    · simp only [List.mem_singleton] at hx
      subst hx
      exact own_ints [1, 0]
  rintro r L ⟨L1, rfl, bc, rfl, rfl⟩
  simp only [go_sem, List.cons_append, List.nil_append]
  intro b5 g5 g6
  refine AWp.view [true, false] [(5, .rp 8 [.agg [ai 1, ab true, ai 1, aInts [1, 0], anil, anil, anil, ai 0]] 0 0)] (LVw.refl _) ?_ ?_
  · intro p hp
    simp only [List.mem_singleton] at hp
    subst hp
    simp only [go_sem]
    refine Vw.mkRp (Vws.cons (.mkAgg ?_) .nil)
    refine Vws.cons (.refl _) (Vws.cons (.refl _) (Vws.cons (.refl _) (Vws.cons ?_ (.refl _))))
    exact Vw.ofLs (t := 3) (cap := 2) (by first | (simp only [lk, if_true]; done) | (simp only [pickT, lk, if_true]; rfl)) rfl
  simp only [pickF, go_sem]
  repeat (first | ((with_reducible refine AWp.ofC ?_ ?_); (focus exact rfl); simp only [go_sem]) | ((with_reducible refine an ?_ ?_); focus exact Au))
  repeat ((with_reducible refine an ?_ ?_); focus exact As)
  refine GCall.use (ab true) (fun _ => ⟨At, (hi1).val.use ⟨rfl, rfl⟩⟩) ?_; simp only [go_sem]
  repeat ((with_reducible refine an ?_ ?_); focus exact As)
  repeat (first | ((with_reducible refine AWp.ofC ?_ ?_); (focus exact rfl); simp only [go_sem]) | ((with_reducible refine an ?_ ?_); focus exact Au))
  refine ret_eq ?_; simp only [go_sem]
end Go.AL
end
section
/- The stretches of states in which something is true. Plain laws. No condition. -/
namespace Go.AL
open Go Go.RowKit
set_option maxRecDepth 4000
/-- The stretches that have ended before a state, and where the one that runs began. -/
def spS (b : Nat → Bool) (p : Nat) : Nat → List Stp × Option Nat
  | 0 => ([], none)
  | k + 1 => match spS b p k, b k with
    | (d, some f), true => (d, some f)
    | (d, none), true => (d, some k)
    | (d, some f), false => (d ++ [(p, f, k - 1)], none)
    | (d, none), false => (d, none)
def spC (s : List Stp × Option Nat) (p k : Nat) : List Stp := s.1 ++ (match s.2 with | some f => [(p, f, k - 1)] | none => [])
/-- The stretches among the first k states. -/
def spL (b : Nat → Bool) (p k : Nat) : List Stp := spC (spS b p k) p k
section
variable {b : Nat → Bool} {p : Nat}
theorem spS_cur : ∀ k, (spS b p k).2.isSome = (decide (0 < k) && b (k - 1))
  | 0 => rfl
  | k + 1 => by
    unfold spS
    simp only [Nat.zero_lt_succ, decide_true, Bool.true_and, Nat.add_sub_cancel]
    split <;> rename_i h1 h2 <;> rw [h2] <;> rfl
theorem spL_no {k : Nat} (h : b k = false) : spL b p (k + 1) = spL b p k := by
  unfold spL spC
  rw [spS]
  rcases e : spS b p k with ⟨d, _ | f⟩
  · simp [h]
  · simp [h]
theorem spL_new {k : Nat} (h : b k = true) (h0 : (decide (0 < k) && b (k - 1)) = false) : spL b p (k + 1) = spL b p k ++ [(p, k, k)] := by
  have := spS_cur (b := b) (p := p) k
  unfold spL spC
  rw [spS]
  rcases e : spS b p k with ⟨d, _ | f⟩
  · simp [h]
  · rw [e, h0] at this; cases this
theorem spL_on {k : Nat} (h : b k = true) (h0 : (decide (0 < k) && b (k - 1)) = true) : ∃ d f, spL b p k = d ++ [(p, f, k - 1)] ∧ spL b p (k + 1) = d ++ [(p, f, k)] := by
  have := spS_cur (b := b) (p := p) k
  unfold spL spC
  rw [spS]
  rcases e : spS b p k with ⟨d, _ | f⟩
  · rw [e, h0] at this; cases this
  · exact ⟨d, f, by simp, by simp [h]⟩
theorem spL_len : ∀ k, (spL b p k).length ≤ k
  | 0 => Nat.le_refl 0
  | k + 1 => by
    have ih := spL_len k
    cases h : b k with
    | false => rw [spL_no h]; omega
    | true =>
      cases h0 : decide (0 < k) && b (k - 1) with
      | false => rw [spL_new h h0, List.length_append]; simp; omega
      | true =>
        obtain ⟨d, f, e1, e2⟩ := spL_on (p := p) h h0
        rw [e1] at ih
        rw [e2]
        simp at ih ⊢; omega
/-- How many stretches contain a state. -/
def inSp (j : Nat) (s : Stp) : Bool := decide (s.2.1 ≤ j) && decide (j ≤ s.2.2)
end
end Go.AL
end
