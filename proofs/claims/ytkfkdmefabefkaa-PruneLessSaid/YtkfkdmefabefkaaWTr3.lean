/- The package trace, third part: the faults of an event. No condition. -/
import Derived.Test.YtkfkdmefabefkaaWTr2
namespace Go.AL
open Go Go.RowKit
set_option maxRecDepth 4000
def formedI (n : Nat) (p : Int) (e : Ev) : Bool :=
  if e.kind = 1 then decide (e.peer = 0) && decide (e.msg = 0)
  else if e.kind = 2 ∨ e.kind = 3 then inI e.peer 0 ((n : Int) - 1) && !decide (e.peer = p) && inI e.msg 0 199 else false
def asgF (nv : Nat) (l : List (Int × Int)) (k : Nat) : Int :=
  match l[k]? with
  | some a => if !inI a.1 0 ((nv : Int) - 1) || !inI a.2 (-1073741824) 1073741824 then 2 else if (l.take k).any (fun b => decide (b.1 = a.1)) then 8 else 0
  | none => 0
def lastT (l : List Ev) (i : Nat) : Int := if i = 0 then 0 else match l[i - 1]? with | some e => e.time | none => 0
def evF (ps : List Pr) (p i : Nat) : Int :=
  match ps[p]? with
  | some x => match x.evs[i]? with
    | some e => if !formedI ps.length p e then 3 else if !inI e.time 0 1099511627776 || decide (e.time < lastT x.evs i) then 11 else if 8 < e.asg.length then 5 else fstF (asgF x.vars.length e.asg) e.asg.length
    | none => 0
  | none => 0
theorem trace_formed (ps : List Pr) (hs : Sm ps) (p : Int) (e : Ev) : PC Go.Proofs.Try.prog 72 [aTr ps, ai p, aEv e] (ab (formedI ps.length p e)) := by
  have hl := hs.procs
  refine PC.enter 40 [.tmp 6] [3, 5] Go.Proofs.Try.func72 rfl rfl rfl rfl rfl (by simp) (AWp.of ?_); simp only [go_sem]
  repeat (first | ((with_reducible refine AWp.ofC ?_ ?_); (focus exact rfl); simp only [go_sem]) | ((with_reducible refine And.intro ?_ ?_); focus first | exact True.intro | omega | (intros; (with_reducible and_intros) <;> first | (with_reducible assumption) | omega; done)))
  refine ⟨fun h1 => ?_, fun h1 => ?_⟩
  · repeat (first | ((with_reducible refine AWp.ofC ?_ ?_); (focus exact rfl); simp only [go_sem]) | ((with_reducible refine And.intro ?_ ?_); focus first | exact True.intro | omega | (intros; (with_reducible and_intros) <;> first | (with_reducible assumption) | omega; done)))
    refine ret_eq ?_; simp only [go_sem]
    unfold formedI; rw [if_pos h1]
  · repeat (first | ((with_reducible refine AWp.ofC ?_ ?_); (focus exact rfl); simp only [go_sem]) | ((with_reducible refine And.intro ?_ ?_); focus first | exact True.intro | omega | (intros; (with_reducible and_intros) <;> first | (with_reducible assumption) | omega; done)))
    refine ⟨fun h2 => ?_, fun h2 => ?_⟩
    · repeat (first | ((with_reducible refine AWp.ofC ?_ ?_); (focus exact rfl); simp only [go_sem, h2]) | ((with_reducible refine And.intro ?_ ?_); focus first | exact True.intro | omega | (intros; (with_reducible and_intros) <;> first | (with_reducible assumption) | omega; done)))
      repeat ((with_reducible refine And.intro ?_ ?_); focus first | exact True.intro | omega | (intros; (with_reducible and_intros) <;> first | (with_reducible assumption) | omega; done) | (simp; done) | (simp; omega))
      refine (trace_in _ _ _).val.use ?_; simp only [go_sem]
      repeat ((with_reducible refine And.intro ?_ ?_); focus first | exact True.intro | omega | (intros; (with_reducible and_intros) <;> first | (with_reducible assumption) | omega; done) | (simp; done) | (simp; omega))
      refine GCall.use (ab (inI e.msg 0 199)) (fun _ => ⟨(by first | exact True.intro | omega | (intros; (with_reducible and_intros) <;> first | (with_reducible assumption) | omega) | (simp; done) | (simp; omega) | (intros; simp_all; done) | (intros; simp_all; omega)), (trace_in _ _ _).val.use ⟨rfl, rfl⟩⟩) ?_; simp only [go_sem]
      repeat (first | ((with_reducible refine AWp.ofC ?_ ?_); (focus exact rfl); simp only [go_sem]) | ((with_reducible refine And.intro ?_ ?_); focus first | exact True.intro | omega | (intros; (with_reducible and_intros) <;> first | (with_reducible assumption) | omega; done)))
      refine ret_eq ?_; simp only [go_sem]
      unfold formedI; rw [if_neg h1, if_pos (by omega)]
    · repeat (first | ((with_reducible refine AWp.ofC ?_ ?_); (focus exact rfl); simp only [go_sem, h2]) | ((with_reducible refine And.intro ?_ ?_); focus first | exact True.intro | omega | (intros; (with_reducible and_intros) <;> first | (with_reducible assumption) | omega; done)))
      refine ⟨fun h3 => ?_, fun h3 => ?_⟩
      · repeat (first | ((with_reducible refine AWp.ofC ?_ ?_); (focus exact rfl); simp only [go_sem, h2, h3]) | ((with_reducible refine And.intro ?_ ?_); focus first | exact True.intro | omega | (intros; (with_reducible and_intros) <;> first | (with_reducible assumption) | omega; done)))
        repeat ((with_reducible refine And.intro ?_ ?_); focus first | exact True.intro | omega | (intros; (with_reducible and_intros) <;> first | (with_reducible assumption) | omega; done) | (simp; done) | (simp; omega))
        refine (trace_in _ _ _).val.use ?_; simp only [go_sem]
        repeat ((with_reducible refine And.intro ?_ ?_); focus first | exact True.intro | omega | (intros; (with_reducible and_intros) <;> first | (with_reducible assumption) | omega; done) | (simp; done) | (simp; omega))
        refine GCall.use (ab (inI e.msg 0 199)) (fun _ => ⟨(by first | exact True.intro | omega | (intros; (with_reducible and_intros) <;> first | (with_reducible assumption) | omega) | (simp; done) | (simp; omega) | (intros; simp_all; done) | (intros; simp_all; omega)), (trace_in _ _ _).val.use ⟨rfl, rfl⟩⟩) ?_; simp only [go_sem]
        repeat (first | ((with_reducible refine AWp.ofC ?_ ?_); (focus exact rfl); simp only [go_sem]) | ((with_reducible refine And.intro ?_ ?_); focus first | exact True.intro | omega | (intros; (with_reducible and_intros) <;> first | (with_reducible assumption) | omega; done)))
        refine ret_eq ?_; simp only [go_sem]
        unfold formedI; rw [if_neg h1, if_pos (by omega)]
      · repeat (first | ((with_reducible refine AWp.ofC ?_ ?_); (focus exact rfl); simp only [go_sem, h2, h3]) | ((with_reducible refine And.intro ?_ ?_); focus first | exact True.intro | omega | (intros; (with_reducible and_intros) <;> first | (with_reducible assumption) | omega; done)))
        refine ret_eq ?_; simp only [go_sem]
        unfold formedI; rw [if_neg h1, if_neg (by omega)]
theorem trace_eventFault1 (y x : Int × Int) : PC Go.Proofs.Try.prog 74 [aAsg y, .rp 2 [aAsg x] 0 0] (ab (decide (y.1 = x.1))) := by
  refine PC.enter 9 [.tmp 3] [2] Go.Proofs.Try.func74 rfl rfl rfl rfl rfl (by simp) (AWp.of ?_); simp only [go_sem]
  repeat ((with_reducible refine And.intro ?_ ?_); focus first | exact True.intro | omega | (intros; (with_reducible and_intros) <;> first | (with_reducible assumption) | omega; done) | (simp; done) | (simp; omega))
  refine AWp.of ?_; simp only [go_sem]
  repeat ((with_reducible refine And.intro ?_ ?_); focus first | exact True.intro | omega | (intros; (with_reducible and_intros) <;> first | (with_reducible assumption) | omega; done) | (simp; done) | (simp; omega))
  refine AWp.of ?_; simp only [go_sem]
  refine ret_eq ?_; simp only [go_sem]
theorem trace_sends1 (e : Ev) (m to : Int) : PC Go.Proofs.Try.prog 83 [aEv e, .rp 1 [ai m] 0 0, .rp 1 [ai to] 0 0] (ab (decide (e.kind = 2) && decide (e.msg = m) && decide (e.peer = to))) := by
  refine PC.enter 20 [.tmp 4] [3] Go.Proofs.Try.func83 rfl rfl rfl rfl rfl (by simp) (AWp.of ?_); simp only [go_sem]
  repeat ((with_reducible refine And.intro ?_ ?_); focus first | exact True.intro | omega | (intros; (with_reducible and_intros) <;> first | (with_reducible assumption) | omega; done) | (simp; done) | (simp; omega))
  refine AWp.of ?_; simp only [go_sem]
  repeat ((with_reducible refine And.intro ?_ ?_); focus first | exact True.intro | omega | (intros; (with_reducible and_intros) <;> first | (with_reducible assumption) | omega; done) | (simp; done) | (simp; omega))
  refine AWp.of ?_; simp only [go_sem]
  refine ret_eq ?_; simp only [go_sem]
theorem trace_sends (ps : List Pr) (hs : Sm ps) (p : Nat) (hp : p < ps.length) (m to : Int) : PC Go.Proofs.Try.prog 75 [aTr ps, ai p, ai m, ai to] (ab (ps[p].evs.any fun e => decide (e.kind = 2) && decide (e.msg = m) && decide (e.peer = to))) := by
  have hm := List.getElem_mem hp
  refine PC.enter 17 [.tmp 8] [4, 6, 7] Go.Proofs.Try.func75 rfl rfl rfl rfl rfl (by simp) (AWp.of ?_); simp only [go_sem]
  repeat ((with_reducible refine And.intro ?_ ?_); focus first | exact True.intro | omega | (intros; (with_reducible and_intros) <;> first | (with_reducible assumption) | omega; done) | (simp; done) | (simp; omega))
  refine AWp.of ?_; simp only [go_sem, getD_map hp]
  repeat ((with_reducible refine And.intro ?_ ?_); focus first | exact True.intro | omega | (intros; (with_reducible and_intros) <;> first | (with_reducible assumption) | omega; done) | (simp; done) | (simp; omega))
  refine (events_containsFunc ps[p].evs (hs.evs _ hm) (.clo 83 [.rp 1 [ai m] 0 0, .rp 1 [ai to] 0 0]) rfl (fun e => decide (e.kind = 2) && decide (e.msg = m) && decide (e.peer = to)) fun e _ => (trace_sends1 e m to).clo).val.use ?_; simp only [go_sem]
  repeat ((with_reducible refine And.intro ?_ ?_); focus first | exact True.intro | omega | (intros; (with_reducible and_intros) <;> first | (with_reducible assumption) | omega; done) | (simp; done) | (simp; omega))
  refine AWp.of ?_; simp only [go_sem]
  refine ret_eq ?_; simp only [go_sem]
theorem trace_eventFault (ps : List Pr) (hs : Sm ps) (p : Nat) (hp : p < ps.length) (i : Nat) (hi : i < ps[p].evs.length) :
    PC Go.Proofs.Try.prog 59 [aTr ps, aEid (p, (i : Int) + 1), aEv ps[p].evs[i]] (ai (evF ps p i)) := by
  have hm := List.getElem_mem hp
  have hl := hs.procs
  have hel := hs.evs _ hm
  have hvl := hs.vars _ hm
  have hal := hs.asg _ hm _ (List.getElem_mem hi)
  have e1 : ps[p]? = some ps[p] := List.getElem?_eq_getElem hp
  have e2 : ps[p].evs[i]? = some ps[p].evs[i] := List.getElem?_eq_getElem hi
  generalize hx : ps[p] = x at *
  generalize hev : x.evs[i] = e at *
  refine PC.enter 82 [.tmp 6] [3, 4, 5, 7, 10] Go.Proofs.Try.func59 rfl rfl rfl rfl rfl (by simp) (AWp.of ?_); simp only [go_sem]
  repeat ((with_reducible refine And.intro ?_ ?_); focus first | exact True.intro | omega | (intros; (with_reducible and_intros) <;> first | (with_reducible assumption) | omega; done) | (simp; done) | (simp; omega))
  refine AWp.of ?_; simp only [go_sem, getD_map hp, hx]
  repeat ((with_reducible refine And.intro ?_ ?_); focus first | exact True.intro | omega | (intros; (with_reducible and_intros) <;> first | (with_reducible assumption) | omega; done) | (simp; done) | (simp; omega))
  intros
  refine AWp.of ?_; simp only [go_sem, getD_map hp, hx]
  refine AWp.cut [3, 4, 5, 7, 8] (fun vs L => L = [] ∧ vs = [.rp 1 [aTr ps] 0 0, .rp 2 [aEid (p, (i : Int) + 1)] 0 0, .rp 5 [aEv e] 0 0, .rp 3 [aPr x] 0 0, ai (lastT x.evs i)]) ?_ ?_
  · repeat (first | ((with_reducible refine AWp.ofC ?_ ?_); (focus exact rfl); simp only [go_sem, getD_map hp]) | ((with_reducible refine And.intro ?_ ?_); focus first | exact True.intro | omega | (intros; (with_reducible and_intros) <;> first | (with_reducible assumption) | omega; done)))
    refine ⟨fun h => ?_, fun h => ?_⟩
    · have e3 : ((i : Int) + 1 - 2).toNat = i - 1 := by omega
      have h4 : i - 1 < x.evs.length := by omega
      simp only [go_sem, e3, getD_map h4]
      repeat ((with_reducible refine And.intro ?_ ?_); focus first | exact True.intro | omega | (intros; (with_reducible and_intros) <;> first | (with_reducible assumption) | omega; done) | (simp; done) | (simp; omega))
      refine ⟨[], List.Sublist.refl _, rfl, ?_⟩
      simp only [lastT, List.getElem?_eq_getElem h4]; rw [if_neg (by omega)]
    · refine ⟨[], List.Sublist.refl _, rfl, ?_⟩
      simp only [lastT]; rw [if_pos (by omega)]
  · rintro vs L' - ⟨rfl, rfl⟩
    simp only [go_sem]
    have ex : evF ps p i = if !formedI ps.length p e then 3 else if !inI e.time 0 1099511627776 || decide (e.time < lastT x.evs i) then 11 else if 8 < e.asg.length then 5 else fstF (asgF x.vars.length e.asg) e.asg.length := by
      simp only [evF, e1, e2]
    repeat (first | ((with_reducible refine AWp.ofC ?_ ?_); (focus exact rfl); simp only [go_sem]) | ((with_reducible refine And.intro ?_ ?_); focus first | exact True.intro | omega | (intros; (with_reducible and_intros) <;> first | (with_reducible assumption) | omega; done)))
    repeat ((with_reducible refine And.intro ?_ ?_); focus first | exact True.intro | omega | (intros; (with_reducible and_intros) <;> first | (with_reducible assumption) | omega; done) | (simp; done) | (simp; omega))
    refine (trace_formed ps hs p e).val.use ?_; simp only [go_sem]
    repeat (first | ((with_reducible refine AWp.ofC ?_ ?_); (focus exact rfl); simp only [go_sem]) | ((with_reducible refine And.intro ?_ ?_); focus first | exact True.intro | omega | (intros; (with_reducible and_intros) <;> first | (with_reducible assumption) | omega; done)))
    refine ⟨fun h1 => ?_, fun h1 => ?_⟩
    · repeat (first | ((with_reducible refine AWp.ofC ?_ ?_); (focus exact rfl); simp only [go_sem]) | ((with_reducible refine And.intro ?_ ?_); focus first | exact True.intro | omega | (intros; (with_reducible and_intros) <;> first | (with_reducible assumption) | omega; done)))
      refine ret_eq ?_; simp only [go_sem]
      rw [ex, if_pos (by simp [h1])]
    · repeat (first | ((with_reducible refine AWp.ofC ?_ ?_); (focus exact rfl); simp only [go_sem]) | ((with_reducible refine And.intro ?_ ?_); focus first | exact True.intro | omega | (intros; (with_reducible and_intros) <;> first | (with_reducible assumption) | omega; done)))
      repeat ((with_reducible refine And.intro ?_ ?_); focus first | exact True.intro | omega | (intros; (with_reducible and_intros) <;> first | (with_reducible assumption) | omega; done) | (simp; done) | (simp; omega))
      refine (trace_in _ _ _).val.use ?_; simp only [go_sem]
      repeat (first | ((with_reducible refine AWp.ofC ?_ ?_); (focus exact rfl); simp only [go_sem]) | ((with_reducible refine And.intro ?_ ?_); focus first | exact True.intro | omega | (intros; (with_reducible and_intros) <;> first | (with_reducible assumption) | omega; done)))
      refine ⟨fun h2 => ?_, fun h2 h3 => ?_⟩
      · repeat (first | ((with_reducible refine AWp.ofC ?_ ?_); (focus exact rfl); simp only [go_sem]) | ((with_reducible refine And.intro ?_ ?_); focus first | exact True.intro | omega | (intros; (with_reducible and_intros) <;> first | (with_reducible assumption) | omega; done)))
        refine ret_eq ?_; simp only [go_sem]
        rw [ex, if_neg (by rw [h1]; decide), if_pos (by rcases h2 with h2 | h2; (rw [h2]; rfl); (rw [decide_eq_true h2, Bool.or_true]))]
      · have c1 : ¬ ((!formedI ps.length p e) = true) := by rw [h1]; decide
        have c2 : ¬ ((!inI e.time 0 1099511627776 || decide (e.time < lastT x.evs i)) = true) := by rw [h2, decide_eq_false h3]; decide
        repeat (first | ((with_reducible refine AWp.ofC ?_ ?_); (focus exact rfl); simp only [go_sem]) | ((with_reducible refine And.intro ?_ ?_); focus first | exact True.intro | omega | (intros; (with_reducible and_intros) <;> first | (with_reducible assumption) | omega; done)))
        refine ⟨fun h4 => ?_, fun h4 => ?_⟩
        · repeat (first | ((with_reducible refine AWp.ofC ?_ ?_); (focus exact rfl); simp only [go_sem]) | ((with_reducible refine And.intro ?_ ?_); focus first | exact True.intro | omega | (intros; (with_reducible and_intros) <;> first | (with_reducible assumption) | omega; done)))
          refine ret_eq ?_; simp only [go_sem]
          rw [ex, if_neg c1, if_neg c2, if_pos (by omega)]
        · repeat (first | ((with_reducible refine AWp.ofC ?_ ?_); (focus exact rfl); simp only [go_sem]) | ((with_reducible refine And.intro ?_ ?_); focus first | exact True.intro | omega | (intros; (with_reducible and_intros) <;> first | (with_reducible assumption) | omega; done)))
          have ex : evF ps p i = fstF (asgF x.vars.length e.asg) e.asg.length := by rw [ex, if_neg c1, if_neg c2, if_neg (by omega)]
          refine AWp.range' e.asg.length [] [5, 7, 52, 53] (fun k vs L => L = [] ∧ ∀ i, i < k → asgF x.vars.length e.asg i = 0) (by omega) rfl rfl rfl ⟨rfl, by omega⟩ ?_ ?_
          · rintro k vs L' hk hvs ⟨rfl, hI⟩
            simp only [go_sem]
            have e3 : e.asg[k]? = some e.asg[k] := List.getElem?_eq_getElem hk
            repeat ((with_reducible refine And.intro ?_ ?_); focus first | exact True.intro | omega | (intros; (with_reducible and_intros) <;> first | (with_reducible assumption) | omega; done) | (simp; done) | (simp; omega))
            refine AWp.of ?_; simp only [go_sem, getD_map hk]
            repeat ((with_reducible refine And.intro ?_ ?_); focus first | exact True.intro | omega | (intros; (with_reducible and_intros) <;> first | (with_reducible assumption) | omega; done) | (simp; done) | (simp; omega))
            intros
            refine AWp.of ?_; simp only [go_sem]
            repeat ((with_reducible refine And.intro ?_ ?_); focus first | exact True.intro | omega | (intros; (with_reducible and_intros) <;> first | (with_reducible assumption) | omega; done) | (simp; done) | (simp; omega))
            refine (trace_in _ _ _).val.use ?_; simp only [go_sem]
            repeat ((with_reducible refine And.intro ?_ ?_); focus first | exact True.intro | omega | (intros; (with_reducible and_intros) <;> first | (with_reducible assumption) | omega; done) | (simp; done) | (simp; omega))
            refine GCall.use (ab (inI e.asg[k].2 (-1073741824) 1073741824)) (fun _ => ⟨(by first | exact True.intro | omega | (intros; (with_reducible and_intros) <;> first | (with_reducible assumption) | omega) | (simp; done) | (simp; omega) | (intros; simp_all; done) | (intros; simp_all; omega)), (trace_in _ _ _).val.use ⟨rfl, rfl⟩⟩) ?_; simp only [go_sem]
            repeat (first | ((with_reducible refine AWp.ofC ?_ ?_); (focus exact rfl); simp only [go_sem]) | ((with_reducible refine And.intro ?_ ?_); focus first | exact True.intro | omega | (intros; (with_reducible and_intros) <;> first | (with_reducible assumption) | omega; done)))
            refine ⟨fun h5 => ?_, fun h5 h6 => ?_⟩
            · repeat (first | ((with_reducible refine AWp.ofC ?_ ?_); (focus exact rfl); simp only [go_sem]) | ((with_reducible refine And.intro ?_ ?_); focus first | exact True.intro | omega | (intros; (with_reducible and_intros) <;> first | (with_reducible assumption) | omega; done)))
              refine ret_eq ?_; simp only [go_sem]
              have hv : asgF x.vars.length e.asg k = 2 := by simp only [asgF, e3]; rw [if_pos (by simpa using h5)]
              rw [ex, fstF_hit hk hI (by rw [hv]; decide), hv]
            · repeat (first | ((with_reducible refine AWp.ofC ?_ ?_); (focus exact rfl); simp only [go_sem]) | ((with_reducible refine And.intro ?_ ?_); focus first | exact True.intro | omega | (intros; (with_reducible and_intros) <;> first | (with_reducible assumption) | omega; done)))
              repeat ((with_reducible refine And.intro ?_ ?_); focus first | exact True.intro | omega | (intros; (with_reducible and_intros) <;> first | (with_reducible assumption) | omega; done) | (simp; done) | (simp; omega))
              refine (asgs_containsFunc (e.asg.take k) (take_le hal) (.clo 74 [.rp 2 [aAsg e.asg[k]] 0 0]) rfl (fun b => decide (b.1 = e.asg[k].1)) fun y _ => (trace_eventFault1 y e.asg[k]).clo).val.use ?_; simp only [go_sem]
              repeat (first | ((with_reducible refine AWp.ofC ?_ ?_); (focus exact rfl); simp only [go_sem]) | ((with_reducible refine And.intro ?_ ?_); focus first | exact True.intro | omega | (intros; (with_reducible and_intros) <;> first | (with_reducible assumption) | omega; done)))
              refine ⟨fun h7 => ?_, fun h7 => ?_⟩
              · repeat (first | ((with_reducible refine AWp.ofC ?_ ?_); (focus exact rfl); simp only [go_sem]) | ((with_reducible refine And.intro ?_ ?_); focus first | exact True.intro | omega | (intros; (with_reducible and_intros) <;> first | (with_reducible assumption) | omega; done)))
                refine ret_eq ?_; simp only [go_sem]
                have hv : asgF x.vars.length e.asg k = 8 := by simp only [asgF, e3]; rw [if_neg (by simp [h5, h6]), if_pos h7]
                rw [ex, fstF_hit hk hI (by rw [hv]; decide), hv]
              · refine ⟨[], List.Sublist.refl _, rfl, fun i hi => ?_⟩
                by_cases e4 : i = k
                · subst e4; simp only [asgF, e3]; rw [if_neg (by simp [h5, h6]), if_neg (by simp [h7])]
                · exact hI i (by omega)
          · rintro vs L' hvs ⟨rfl, hI⟩
            simp only [go_sem]
            repeat (first | ((with_reducible refine AWp.ofC ?_ ?_); (focus exact rfl); simp only [go_sem]) | ((with_reducible refine And.intro ?_ ?_); focus first | exact True.intro | omega | (intros; (with_reducible and_intros) <;> first | (with_reducible assumption) | omega; done)))
            refine ret_eq ?_; simp only [go_sem]
            rw [ex, fstF_none hI]
end Go.AL
