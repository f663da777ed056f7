/- The package trace, fifth part: cycles. No condition. -/
import Derived.Test.YtkfkdmefabefkaaWMsg
namespace Go.AL
open Go Go.RowKit
set_option maxRecDepth 4000
/-- The events directly behind one. -/
def afterL (ps : List Pr) (x : Eid) : List Eid :=
  match ps[x.1.toNat]? with
  | some q => match q.evs[(x.2 - 1).toNat]? with
    | some e => (if x.2 < q.evs.length then [(x.1, x.2 + 1)] else []) ++ (if e.kind = 2 ∧ 0 < (findIn (evIds ps) 3 e.msg).2 then [findIn (evIds ps) 3 e.msg] else [])
    | none => []
  | none => []
theorem formed_num {n : Nat} {p : Int} {e : Ev} (h : formedI n p e = true) : 0 ≤ e.msg ∧ e.msg ≤ 199 := by
  unfold formedI at h
  split at h
  · simp only [Bool.and_eq_true, decide_eq_true_eq] at h; omega
  · split at h
    · simp only [inI, Bool.and_eq_true, decide_eq_true_eq] at h; omega
    · cases h
theorem letCells_toP (l : List (Eid × Ev)) (m : Int) (h1 : 0 ≤ m) (h2 : m ≤ 199) : ((letCells l).drop (m.toNat * 4 + 2)).take 2 = [ai (findIn l 3 m).1, ai (findIn l 3 m).2] := by
  have := letCells_pair l m.toNat 2 (by omega) (.inr rfl)
  rw [if_neg (by decide), Int.toNat_of_nonneg h1] at this
  exact this
theorem trace_after (ps : List Pr) (hs : Sm ps) (hf : Formed ps) (p : Nat) (hp : p < ps.length) (i : Nat) (hi : i < ps[p].evs.length) :
    PC Go.Proofs.Try.prog 76 [aTr ps, aLet ps, aEid (p, (i : Int) + 1)] (aEids (afterL ps (p, (i : Int) + 1))) := by
  have hfe := hf p hp _ (List.getElem_mem hi)
  have hel := hs.evs _ (List.getElem_mem hp)
  have ha : afterL ps (p, (i : Int) + 1) = (if i + 1 < ps[p].evs.length then [((p : Int), (i : Int) + 1 + 1)] else []) ++ (if ps[p].evs[i].kind = 2 ∧ 0 < (findIn (evIds ps) 3 ps[p].evs[i].msg).2 then [findIn (evIds ps) 3 ps[p].evs[i].msg] else []) := by
    simp only [afterL, Int.toNat_natCast, List.getElem?_eq_getElem hp, show ((i : Int) + 1 - 1).toNat = i by omega, List.getElem?_eq_getElem hi]
    congr 1
    by_cases h : i + 1 < ps[p].evs.length
    · rw [if_pos h, if_pos (by omega)]
    · rw [if_neg h, if_neg (by omega)]
  generalize hx : ps[p] = q at *
  generalize he : q.evs[i] = e at *
  have e3 : ((i : Int) + 1 - 1).toNat = i := by omega
  unfold aLet
  refine PC.enter 62 [.tmp 6] [3, 5, 9, 29, 59] Go.Proofs.Try.func76 rfl rfl rfl rfl rfl (by simp) (AWp.of ?_); simp only [go_sem]
  repeat ((with_reducible refine And.intro ?_ ?_); focus first | exact True.intro | omega | (intros; (with_reducible and_intros) <;> first | (with_reducible assumption) | omega; done) | (simp; done) | (simp; omega))
  refine AWp.of ?_; simp only [go_sem]
  repeat ((with_reducible refine And.intro ?_ ?_); focus first | exact True.intro | omega | (intros; (with_reducible and_intros) <;> first | (with_reducible assumption) | omega; done) | (simp; done) | (simp; omega))
  refine AWp.of ?_; simp only [go_sem, getD_map hp, hx]
  repeat ((with_reducible refine And.intro ?_ ?_); focus first | exact True.intro | omega | (intros; (with_reducible and_intros) <;> first | (with_reducible assumption) | omega; done) | (simp; done) | (simp; omega))
  refine AWp.cut [1, 5, 7, 8] (fun vs L => ∃ v, vs = [.rp 800 [.agg (letCells (evIds ps))] 0 0, .rp 2 [aEid (p, (i : Int) + 1)] 0 0, v, aEvs q.evs] ∧ AppSt 81 2 ((if i + 1 < q.evs.length then [((p : Int), (i : Int) + 1 + 1)] else []).map aEid) v L) ?_ ?_
  · repeat ((with_reducible refine And.intro ?_ ?_); focus first | exact True.intro | omega | (intros; (with_reducible and_intros) <;> first | (with_reducible assumption) | omega; done) | (simp; done) | (simp; omega))
    refine AWp.of ?_; simp only [go_sem]
    repeat ((with_reducible refine And.intro ?_ ?_); focus first | exact True.intro | omega | (intros; (with_reducible and_intros) <;> first | (with_reducible assumption) | omega; done) | (simp; done) | (simp; omega))
    refine AWp.of ?_; simp only [go_sem]
    refine ⟨fun h => ?_, fun h => ?_⟩
    · repeat ((with_reducible refine And.intro ?_ ?_); focus first | exact True.intro | omega | (intros; (with_reducible and_intros) <;> first | (with_reducible assumption) | omega; done) | (simp; done) | (simp; omega))
      intro b cap _
      refine ⟨_, List.Sublist.refl _, _, rfl, ?_⟩
      rw [if_pos (by omega)]
      exact .row b _ cap
    · refine ⟨_, List.Sublist.refl _, _, rfl, ?_⟩
      rw [if_neg (by omega)]
      exact .nil
  · rintro vs L' - ⟨v, rfl, ha1⟩
    generalize hy1 : (if i + 1 < q.evs.length then [((p : Int), (i : Int) + 1 + 1)] else []) = y1 at *
    simp only [go_sem]
    obtain ⟨hm1, hm2⟩ := formed_num hfe
    have c1 := letCells_to (evIds ps) e.msg hm1 hm2
    have c2 := letCells_toP (evIds ps) e.msg hm1 hm2
    repeat ((with_reducible refine And.intro ?_ ?_); focus first | exact True.intro | omega | (intros; (with_reducible and_intros) <;> first | (with_reducible assumption) | omega; done) | (simp; done) | (simp; omega))
    refine AWp.of ?_; simp only [go_sem, e3, getD_map hi, he]
    repeat ((with_reducible refine And.intro ?_ ?_); focus first | exact True.intro | omega | (intros; (with_reducible and_intros) <;> first | (with_reducible assumption) | omega; done) | (simp; done) | (simp; omega))
    intros
    refine AWp.seq ?_
    refine AWp.drawn mixed 10 (by kernel_rfl) ?_; simp only [go_sem, c1]
    repeat (first | ((with_reducible refine AWp.ofC ?_ ?_); (focus exact rfl); simp only [go_sem]) | ((with_reducible refine And.intro ?_ ?_); focus first | exact True.intro | omega | (intros; (with_reducible and_intros) <;> first | (with_reducible assumption) | omega; done)))
    refine ⟨fun h1 h2 => ?_, fun h1 => ?_⟩
    · rw [if_pos ⟨h1, h2⟩] at ha
      rcases ha1.inv with ⟨e1, rfl, rfl⟩ | ⟨b, cap, rfl, rfl⟩
      · have e2 : y1 = [] := by simpa using e1
        refine AWp.drawn mixed 9 (by kernel_rfl) ?_; simp only [go_sem, c1, c2]
        repeat ((with_reducible refine And.intro ?_ ?_); focus first | exact True.intro | omega | (intros; (with_reducible and_intros) <;> first | (with_reducible assumption) | omega; done) | (simp; done) | (simp; omega))
        intro b' cap' _
        repeat (first | ((with_reducible refine AWp.ofC ?_ ?_); (focus exact rfl); simp only [go_sem]) | ((with_reducible refine And.intro ?_ ?_); focus first | exact True.intro | omega | (intros; (with_reducible and_intros) <;> first | (with_reducible assumption) | omega; done)))
        rw [ha, e2]
        refine ret_view [true] ?_; simp only [go_sem]
        exact Vw.ofLs (if_pos rfl) rfl
      · have e2 : y1.length ≤ 1 := by rw [← hy1]; split <;> simp
        refine AWp.drawn mixed 9 (by kernel_rfl) ?_; simp only [go_sem, c1, c2]
        repeat ((with_reducible refine And.intro ?_ ?_); focus first | exact True.intro | omega | (intros; (with_reducible and_intros) <;> first | (with_reducible assumption) | omega; done) | (simp; done) | (simp; omega))
        intro b' cap' _
        repeat (first | ((with_reducible refine AWp.ofC ?_ ?_); (focus exact rfl); simp only [go_sem]) | ((with_reducible refine And.intro ?_ ?_); focus first | exact True.intro | omega | (intros; (with_reducible and_intros) <;> first | (with_reducible assumption) | omega; done)))
        rw [ha]
        refine ret_view [true] ?_; simp only [go_sem]
        rw [List.map_append]
        exact Vw.ofLs (if_pos rfl) (by simp)
    · rw [if_neg (by rintro ⟨h3, h4⟩; exact absurd h4 (h1 h3)), List.append_nil] at ha
      rw [ha]
      rcases ha1.inv with ⟨e1, rfl, rfl⟩ | ⟨b, cap, rfl, rfl⟩
      · repeat (first | ((with_reducible refine AWp.ofC ?_ ?_); (focus exact rfl); simp only [go_sem]) | ((with_reducible refine And.intro ?_ ?_); focus first | exact True.intro | omega | (intros; (with_reducible and_intros) <;> first | (with_reducible assumption) | omega; done)))
        refine ret_view [] ?_; simp only [go_sem]
        rw [e1]
        exact .nil _
      · repeat (first | ((with_reducible refine AWp.ofC ?_ ?_); (focus exact rfl); simp only [go_sem]) | ((with_reducible refine And.intro ?_ ?_); focus first | exact True.intro | omega | (intros; (with_reducible and_intros) <;> first | (with_reducible assumption) | omega; done)))
        refine ret_view [true] ?_; simp only [go_sem]
        exact Vw.ofLs (if_pos rfl) (by simp)
end Go.AL
