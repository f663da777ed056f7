/- The layer AL, part 16: loops with a counter. No condition. -/
import Derived.Test.YtkfkdmefabefkaaAlSimp
namespace Go.AL
open Go Go.RowKit

/-- The end of a round of a loop with a counter. -/
def countQ (s k m : Nat) (ls ks : List Nat) (ρ0 : Env) (I : Nat → List AV → AHeap → Prop) (Q : AQ) : AQ
  | .normal, ρ, L => get ρ s = ai (k + 1) ∧ k + 1 ≤ m ∧ ks.map (get ρ) = ks.map (get ρ0) ∧ ∃ L', L'.Sublist L ∧ I (k + 1) (ls.map (get ρ)) L'
  | e, ρ, L => Q e ρ L
theorem AWp.count {C : Cfg} {c : Code} {Q : AQ} {ρ : Env} {L : AHeap} (s m : Nat) (ls ks : List Nat) (I : Nat → List AV → AHeap → Prop) (hs : get ρ s = ai 0) (hok : (!ks.contains s && !ls.contains s) = true) (h0 : I 0 (ls.map (get ρ)) L)
    (round : ∀ k vs L', k ≤ m → vs.length = ls.length → I k vs L' → AWp C c (countQ s k m ls ks ρ I Q) ((s, ai k) :: lenv ls ks vs ρ) L') : AWp C (.loop c) Q ρ L := by
  simp only [Bool.and_eq_true, Bool.not_eq_true', List.contains_eq_mem, decide_eq_false_iff_not] at hok
  obtain ⟨hsk, hsl⟩ := hok
  refine AWp.loop (s :: ls) ks (fun vs' L' => ∃ (k : Nat) (vs : List AV), vs' = ai (k : Int) :: vs ∧ k ≤ m ∧ I k vs L') (fun vs' _ => match vs' with | .v (.int _ k) :: _ => m - k.toNat | _ => 0)
    ⟨0, _, by simp [hs], Nat.zero_le _, h0⟩ ?_
  rintro vs' L' hl ⟨k, vs, rfl, hk, hI⟩
  have hvl : vs.length = ls.length := by simpa using hl
  refine AWp.st (ρ' := (s, ai k) :: lenv ls ks vs ρ) (L' := L') (fun w0 M A0 a w h => st_forget h fun i => ?_) ((round k vs L' hk hvl hI).mono fun e ρ' L'' hq => ?_)
  · by_cases hi : i = s
    · subst hi
      refine .inr ?_
      simp only [get, if_true, lenv]
      rw [get_append, if_neg (by simp [keep, hsk])]
      simp [get]
    · refine .inr ?_
      simp only [get, if_neg hi, lenv, List.zip_cons_cons]
      rw [get_append, get_append]
      split
      · rfl
      · simp [get, hi]
  · cases e with
    | normal =>
      obtain ⟨g1, g2, g3, L3, g4, g5⟩ := hq
      refine ⟨g3, L3, g4, ⟨k + 1, _, by rw [List.map_cons, g1]; rfl, g2, g5⟩, ?_⟩
      simp only [List.map_cons, g1]
      have : ((k : Int) + 1).toNat = k + 1 := by omega
      simp only [this, Int.toNat_natCast]
      omega
    | _ => exact hq

/-- Behind a statement only the slots ks are looked at. -/
def cutQ (ks : List Nat) (J : List AV → AHeap → Prop) (Q : AQ) : AQ
  | .normal, ρ, L => ∃ L', L'.Sublist L ∧ J (ks.map (get ρ)) L'
  | e, ρ, L => Q e ρ L
theorem AWp.cut {C : Cfg} {a b : Code} {Q : AQ} {ρ : Env} {L : AHeap} (ks : List Nat) (J : List AV → AHeap → Prop) (h1 : AWp C a (cutQ ks J Q) ρ L) (h2 : ∀ vs L', vs.length = ks.length → J vs L' → AWp C b Q (ks.zip vs) L') :
    AWp C (.seq a b) Q ρ L := by
  refine AWp.seq (h1.mono fun e ρ' L' hq => ?_)
  cases e with
  | normal =>
    obtain ⟨L1, hs, hj⟩ := hq
    exact AWp.st (fun w0 M A0 a w h => st_sub (st_forget h (get_zip ks ρ')) hs) (h2 _ L1 (by simp) hj)
  | _ => exact hq
def rOk (s n t t2 : Nat) (ls ks : List Nat) : Bool := ks.contains n && !ks.contains s && !ls.contains s && t != s && !ks.contains t && !ks.contains t2 && !ls.contains t && !ls.contains t2
theorem AWp.range' {C : Cfg} {id i1 i2 t s n t2 : Nat} {ty1 ty2 ty3 ty4 r1 r2 r3 : TypeId} {p1 p2 p3 : String} {a1 a2 a3 : Array Edge} {body : Code} {Q : AQ} {ρ : Env} {L : AHeap}
    (m : Nat) (ls ks : List Nat) (I : Nat → List AV → AHeap → Prop) (hm : m ≤ 9223372036854775806) (hs : get ρ s = ai 0) (hn : get ρ n = ai m) (hok : rOk s n t t2 ls ks = true)
    (h0 : I 0 (ls.map (get ρ)) L)
    (round : ∀ k vs L', k < m → vs.length = ls.length → I k vs L' → AWp C body (rangeQ id s k ls ks ρ (I (k + 1)) Q) ((s, ai k) :: lenv ls ks vs ρ) L')
    (done : ∀ vs L', vs.length = ls.length → I m vs L' → Q .normal ((s, ai m) :: lenv ls ks vs ρ) L') :
    AWp C (.block id (.loop (.seq (.region i1 #[⟨some t, .binOp .lss ty1 (.tmp s) (.tmp n) ty2, r1, p1, a1, none⟩] false) (.seq (.cond (.tmp t) .skip (.exit id)) (.seq body
      (.region i2 #[⟨some t2, .binOp .add ty3 (.tmp s) (.const (.int .i64 1)) ty4, r2, p2, a2, none⟩, ⟨some s, .move (.tmp t2), r3, p3, a3, none⟩] false)))))) Q ρ L := by
  simp only [rOk, Bool.and_eq_true, Bool.not_eq_true', List.contains_eq_mem, decide_eq_false_iff_not, decide_eq_true_eq, bne_iff_ne, ne_eq] at hok
  obtain ⟨⟨⟨⟨⟨⟨⟨h1, h2⟩, h3⟩, h4⟩, h5⟩, h6⟩, h7⟩, h8⟩ := hok
  exact AWp.range m ls ks I hm hs hn h1 h2 h3 h4 h5 h6 h7 h8 h0 round done
/-- What a slice is that began as nil and was appended to. -/
inductive AppSt (t : TypeId) (k : Nat) : List AV → AV → AHeap → Prop
  | nil : AppSt t k [] anil []
  | row (b : Nat) (ys : List AV) (cap : Nat) : AppSt t k ys (.ls b k 0 ys.length cap) [(b, .row t k ys cap)]
theorem AppSt.vw {t : TypeId} {k : Nat} {ys : List AV} {v : AV} {L : AHeap} (h : AppSt t k ys v L) (Lr : AHeap) : Vw (L ++ Lr) v (.sl k ys) := by
  cases h with
  | nil => exact .nil k
  | row b ys cap => exact Vw.ofLs (t := t) (cap := cap) (if_pos rfl) rfl
theorem AppSt.fo {t : TypeId} {k : Nat} {ys : List AV} {v : AV} {L : AHeap} (h : AppSt t k ys v L) : fo v = (True, v) := by cases h <;> rfl
theorem AppSt.own {t : TypeId} {k : Nat} {ys : List AV} {v : AV} {L : AHeap} (h : AppSt t k ys v L) (hy : ∀ y ∈ ys, Own y ∧ ∀ c ∈ y.cells, Own c) : Own v ∧ ∀ x ∈ L, OwnB x.2 := by
  cases h with
  | nil => exact ⟨Own.v _, fun x hx => by cases hx⟩
  | row b ys cap => exact ⟨Own.ls _ _ _ _ _, fun x hx => by simp at hx; subst hx; exact hy⟩
theorem own_ints (l : List Int) : ∀ y ∈ l.map ai, Own y ∧ ∀ c ∈ y.cells, Own c := fun y hy => by
  obtain ⟨n, _, rfl⟩ := List.mem_map.1 hy
  exact ⟨Own.v _, fun c hc => by simp [AV.cells] at hc; subst hc; exact Own.v _⟩
theorem AppSt.inv {t : TypeId} {k : Nat} {ys : List AV} {v : AV} {L : AHeap} (h : AppSt t k ys v L) : (ys = [] ∧ v = anil ∧ L = []) ∨ ∃ b cap, v = .ls b k 0 ys.length cap ∧ L = [(b, .row t k ys cap)] := by
  cases h with
  | nil => exact .inl ⟨rfl, rfl, rfl⟩
  | row b ys cap => exact .inr ⟨b, cap, rfl, rfl⟩
attribute [go_sem] countQ cutQ
end Go.AL
