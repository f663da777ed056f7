/- The layer AL, part 13: memory that becomes read-only; functions entered and left; contracts used. No condition. -/
import Derived.Test.YtkfkdmefabefkaaAlCode
import Derived.RangeFuncRecord
namespace Go.AL
open Go Go.RowKit

/-- What an abstract value may be told as, once the blocks of L are read-only. -/
inductive Vw (L : AHeap) : AV → AV → Prop
  | refl (a : AV) : Vw L a a
  | nil (k : Nat) : Vw L (.v (.slice none 0 0)) (.sl k [])
  | ls {b k off len c : Nat} {t : TypeId} {xs xs' : List AV} {cap : Nat} (h : lk L b = some (.row t k xs cap)) (hl : off + len ≤ xs.length) (hn : xs'.length = ((xs.drop off).take len).length)
      (hv : ∀ (i : Nat) x y, ((xs.drop off).take len)[i]? = some x → xs'[i]? = some y → Vw L x y) : Vw L (.ls b k off len c) (.sl k xs')
  | lp {b k i j : Nat} {t : TypeId} {xs xs' : List AV} {cap : Nat} (h : lk L b = some (.row t k xs cap)) (hn : xs'.length = xs.length) (hv : ∀ (i : Nat) x y, xs[i]? = some x → xs'[i]? = some y → Vw L x y) : Vw L (.lp b k i j) (.rp k xs' i j)
  | sl {k : Nat} {xs xs' : List AV} (hn : xs'.length = xs.length) (hv : ∀ (i : Nat) x y, xs[i]? = some x → xs'[i]? = some y → Vw L x y) : Vw L (.sl k xs) (.sl k xs')
  | rp {k i j : Nat} {xs xs' : List AV} (hn : xs'.length = xs.length) (hv : ∀ (i : Nat) x y, xs[i]? = some x → xs'[i]? = some y → Vw L x y) : Vw L (.rp k xs i j) (.rp k xs' i j)
  | agg {xs xs' : List AV} (hn : xs'.length = xs.length) (hv : ∀ (i : Nat) x y, xs[i]? = some x → xs'[i]? = some y → Vw L x y) : Vw L (.agg xs) (.agg xs')
  | tup {xs xs' : List AV} (hn : xs'.length = xs.length) (hv : ∀ (i : Nat) x y, xs[i]? = some x → xs'[i]? = some y → Vw L x y) : Vw L (.tup xs) (.tup xs')
  | clo {f : FuncId} {xs xs' : List AV} (hn : xs'.length = xs.length) (hv : ∀ (i : Nat) x y, xs[i]? = some x → xs'[i]? = some y → Vw L x y) : Vw L (.clo f xs) (.clo f xs')
  | fn (f : FuncId) : Vw L (.v (.func (.func f) #[] #[])) (.clo f [])
  | lm {b : Nat} {ks : List Value} {vs vs' : List AV} (h : lk L b = some (.amap ks vs)) (hn : vs'.length = vs.length) (hv : ∀ (i : Nat) x y, vs[i]? = some x → vs'[i]? = some y → Vw L x y) : Vw L (.lm b) (.rm ks vs')

def Vws (L : AHeap) (xs xs' : List AV) : Prop := xs'.length = xs.length ∧ ∀ (i : Nat) x y, xs[i]? = some x → xs'[i]? = some y → Vw L x y
theorem Vws.refl {L : AHeap} (xs : List AV) : Vws L xs xs := ⟨rfl, fun i x y h1 h2 => by rw [h1] at h2; cases h2; exact .refl _⟩
theorem Vws.nil {L : AHeap} : Vws L [] [] := Vws.refl []
theorem Vws.cons {L : AHeap} {x y : AV} {xs ys : List AV} (h : Vw L x y) (hs : Vws L xs ys) : Vws L (x :: xs) (y :: ys) :=
  ⟨by simp [hs.1], fun i a b ha hb => by
    cases i with
    | zero => simp at ha hb; subst ha; subst hb; exact h
    | succ i => exact hs.2 i a b (by simpa using ha) (by simpa using hb)⟩
theorem Vw.ofLs {L : AHeap} {b k len c : Nat} {t : TypeId} {xs : List AV} {cap : Nat} (h : lk L b = some (.row t k xs cap)) (hl : len = xs.length) : Vw L (.ls b k 0 len c) (.sl k xs) :=
  have e : (xs.drop 0).take len = xs := by rw [List.drop_zero, hl, List.take_length]
  .ls h (by omega) (by rw [e]) (by rw [e]; exact (Vws.refl xs).2)

theorem Vw.ofLp {L : AHeap} {b k i j : Nat} {t : TypeId} {xs : List AV} {cap : Nat} (h : lk L b = some (.row t k xs cap)) : Vw L (.lp b k i j) (.rp k xs i j) :=
  .lp h rfl (fun i x y h1 h2 => by rw [h1] at h2; cases h2; exact .refl _)
theorem Vw.mkTup {L : AHeap} {xs xs' : List AV} (h : Vws L xs xs') : Vw L (.tup xs) (.tup xs') := .tup h.1 h.2
theorem Vw.mkAgg {L : AHeap} {xs xs' : List AV} (h : Vws L xs xs') : Vw L (.agg xs) (.agg xs') := .agg h.1 h.2
theorem Vw.mkSl {L : AHeap} {k : Nat} {xs xs' : List AV} (h : Vws L xs xs') : Vw L (.sl k xs) (.sl k xs') := .sl h.1 h.2
theorem Vw.el {L : AHeap} {a a' : AV} (h : Vw L a a') : a'.cells.length = a.cells.length ∧ (one a = true → one a' = true) ∧ (okv a = true → okv a' = true) := by
  induction h with
  | agg hn hv ih =>
    refine ⟨hn, fun h => by simp [one] at h, fun h => List.all_eq_true.2 fun c' hc' => ?_⟩
    obtain ⟨i, hi⟩ := List.getElem?_of_mem hc'
    have hlt := (List.getElem?_eq_some_iff.1 hi).1
    have hx := List.getElem?_eq_getElem (show i < _ from hn ▸ hlt)
    exact (ih i _ _ hx hi).2.1 (List.all_eq_true.1 h _ (List.mem_of_getElem? hx))
  | tup => exact ⟨rfl, fun h => by simp [one] at h, fun h => by simp [okv, one] at h⟩
  | refl a => exact ⟨rfl, id, id⟩
  | _ => exact ⟨rfl, fun _ => rfl, fun _ => rfl⟩
theorem Vw.elOk {L : AHeap} {a a' : AV} (h : Vw L a a') {k : Nat} (he : elOk k a) : elOk k a' := ⟨h.el.1.trans he.1, h.el.2.2 he.2⟩

section
variable {w : World} {A : Foot} {L : AHeap}
theorem RowR.view {A' : Foot} {b base k : Nat} {xs xs' : List AV} (R : RowR w A b base k xs) (hn : xs'.length = xs.length)
    (hv : ∀ (i : Nat) x y, xs[i]? = some x → xs'[i]? = some y → Vw L x y) (hr : ∀ (i : Nat) (x y : AV) (m : Nat) u c c', xs[i]? = some x → xs'[i]? = some y → x.cells[m]? = some c → y.cells[m]? = some c' → Rel w A c u → Rel w A' c' u) : RowR w A' b base k xs' := by
  refine ⟨fun y hy => ?_, fun i y m c' hy hc' => ?_⟩
  · obtain ⟨i, hi⟩ := List.getElem?_of_mem hy
    have hx := List.getElem?_eq_getElem (show i < xs.length by have := (List.getElem?_eq_some_iff.1 hi).1; omega)
    exact (hv i _ _ hx hi).elOk (R.len _ (List.mem_of_getElem? hx))
  · have hx := List.getElem?_eq_getElem (show i < xs.length by have := (List.getElem?_eq_some_iff.1 hy).1; omega)
    generalize xs[i]'_ = x at hx
    have hm : m < x.cells.length := by
      have := (List.getElem?_eq_some_iff.1 hc').1
      have h2 := (hv i _ _ hx hy).el.1
      omega
    obtain ⟨u, hu, hrel⟩ := R.cell i _ m _ hx (List.getElem?_eq_getElem hm)
    exact ⟨u, hu, hr i _ _ m u _ _ hx hy (List.getElem?_eq_getElem hm) hc' hrel⟩
theorem RowR.c {b base k : Nat} {xs : List AV} (R : RowR w A b base k xs) : ∃ c : Nat → Value, (∀ i, i < xs.length * k → w.cell? ⟨b, base + i, none⟩ = some (c i)) ∧ ∀ (i : Nat) x (j : Nat) y, xs[i]? = some x → x.cells[j]? = some y → Rel w A y (c (i * k + j)) := by
  refine ⟨fun i => (w.cell? ⟨b, base + i, none⟩).getD undef, fun i hi => ?_, fun i x j y hx hy => ?_⟩
  · have hk : 0 < k := by apply Nat.pos_of_ne_zero; rintro rfl; simp at hi
    have hi' : i / k < xs.length := (Nat.div_lt_iff_lt_mul hk).2 hi
    have hx := List.getElem?_eq_getElem hi'
    have hj : i % k < (xs[i / k]).cells.length := by rw [(R.len _ (List.mem_of_getElem? hx)).1]; exact Nat.mod_lt _ hk
    obtain ⟨u, hu, _⟩ := R.cell _ _ (i % k) _ hx (List.getElem?_eq_getElem hj)
    rw [Nat.mul_comm, Nat.div_add_mod] at hu
    simp only [hu, Option.getD_some]
  · obtain ⟨u, hu, hr⟩ := R.cell i x j y hx hy
    have : (w.cell? ⟨b, base + (i * k + j), none⟩).getD undef = u := by rw [hu]; rfl
    show Rel w A y ((w.cell? ⟨b, base + (i * k + j), none⟩).getD undef)
    rw [this]; exact hr

/-- The cells of a view are views of the cells. -/
theorem Vw.cells {a a' : AV} (h : Vw L a a') {m : Nat} {c c' : AV} (hc : a.cells[m]? = some c) (hc' : a'.cells[m]? = some c') : Vw L c c' := by
  have single : ∀ {x y : AV}, Vw L x y → x.cells = [x] → y.cells = [y] → x.cells[m]? = some c → y.cells[m]? = some c' → Vw L c c' := fun {x y} hv hx hy h1 h2 => by
    rw [hx] at h1; rw [hy] at h2
    cases m with
    | zero => simp at h1 h2; subst h1; subst h2; exact hv
    | succ m => simp at h1
  cases h with
  | agg hn hv => exact hv m _ _ hc hc'
  | refl a => rw [hc] at hc'; cases hc'; exact .refl _
  | nil k => exact single (.nil k) rfl rfl hc hc'
  | ls h hl hn hv => exact single (.ls h hl hn hv) rfl rfl hc hc'
  | lp h hn hv => exact single (.lp h hn hv) rfl rfl hc hc'
  | sl hn hv => exact single (.sl hn hv) rfl rfl hc hc'
  | rp hn hv => exact single (.rp hn hv) rfl rfl hc hc'
  | tup hn hv => exact single (.tup hn hv) rfl rfl hc hc'
  | clo hn hv => exact single (.clo hn hv) rfl rfl hc hc'
  | fn f => exact single (.fn f) rfl rfl hc hc'
  | lm h hn hv => exact single (.lm h hn hv) rfl rfl hc hc'

theorem Rel.inv_sl {k : Nat} {xs : List AV} {u : Value} (h : Rel w A (.sl k xs) u) : (xs = [] ∧ ∃ a cap, u = .slice a 0 cap ∧ cap ≤ maxLen) ∨ ∃ b off cap, u = .slice (some ⟨b, off, none⟩) xs.length cap ∧ A b ∧ xs.length ≤ cap ∧ cap ≤ maxLen ∧ RowR w A b off k xs := by
  cases h with
  | sl0 _ a cap hc => exact .inl ⟨rfl, a, cap, rfl, hc⟩
  | sl _ _ b off cap c hA hl hc hk hw h => exact .inr ⟨b, off, cap, rfl, hA, hl, hc, .of_c hk hw h⟩
theorem Rel.mk_sl {k : Nat} {xs : List AV} {b off cap : Nat} (hA : A b) (hl : xs.length ≤ cap) (hc : cap ≤ maxLen) (R : RowR w A b off k xs) : Rel w A (.sl k xs) (.slice (some ⟨b, off, none⟩) xs.length cap) := by
  obtain ⟨c, h1, h2⟩ := R.c
  exact .sl k xs b off cap c hA hl hc R.len h1 h2
theorem Rel.mk_rp {k : Nat} {xs : List AV} {b off : Nat} (hA : A b) (R : RowR w A b off k xs) (i j : Nat) : Rel w A (.rp k xs i j) (.pointer (some ⟨b, off + (i * k + j), none⟩)) := by
  obtain ⟨c, h1, h2⟩ := R.c
  exact .rp k xs i j b off c hA R.len h1 h2
theorem Rel.inv_rp2 {k : Nat} {xs : List AV} {i j : Nat} {u : Value} (h : Rel w A (.rp k xs i j) u) : ∃ b off, u = .pointer (some ⟨b, off + (i * k + j), none⟩) ∧ A b ∧ RowR w A b off k xs := by
  cases h with
  | rp _ _ _ _ b off cc hA hk hw h => exact ⟨b, off, rfl, hA, .of_c hk hw h⟩

def VP (w : World) (A A' : Foot) (a a' : AV) : Prop := (∀ u, Rel w A a u → Rel w A' a' u) ∧ ∀ (m : Nat) (c c' : AV) u, a.cells[m]? = some c → a'.cells[m]? = some c' → Rel w A c u → Rel w A' c' u
theorem VP.one {A A' : Foot} {a a' : AV} (h1 : a.cells = [a]) (h2 : a'.cells = [a']) (h : ∀ u, Rel w A a u → Rel w A' a' u) : VP w A A' a a' :=
  ⟨h, fun m c c' u hc hc' hr => by
    rw [h1] at hc; rw [h2] at hc'
    cases m with
    | zero => simp at hc hc'; subst hc; subst hc'; exact h u hr
    | succ m => simp at hc⟩
/-- The blocks of L are read-only in A'. -/
theorem Rel.view2 {A' : Foot} {a a' : AV} (hv : Vw L a a') (hL : ∀ b x, lk L b = some x → BlkRel w A b x ∧ A' b) (hA : ∀ b, A b → A' b) : VP w A A' a a' := by
  induction hv with
  | refl a => exact ⟨fun u h => h.later (fun _ _ => rfl) hA, fun m c c' u hc hc' h => by rw [hc] at hc'; cases hc'; exact h.later (fun _ _ => rfl) hA⟩
  | nil k => refine .one rfl rfl ?_; intro u h; obtain rfl := h.inv_v; exact .sl0 _ _ _ (Nat.zero_le _)
  | @ls b k off len c t xs xs' cap h hl hn hv ih =>
    refine .one rfl rfl ?_
    intro u hr
    obtain ⟨o, rfl, hle, hcm, ho⟩ := hr.inv_ls
    obtain ⟨hB, hb⟩ := hL b _ h
    have hlen : xs'.length = len := by rw [hn, List.length_take, List.length_drop]; omega
    by_cases hz : len = 0
    · have : xs' = [] := List.eq_nil_of_length_eq_zero (by omega)
      subst this; subst hz
      exact .sl0 _ _ _ hcm
    · have ho : o = off * k := by rcases ho with ho | ho; exact ho; omega
      subst ho
      have R := RowR.of_blk hB
      have R2 : RowR w A b (off * k) k ((xs.drop off).take len) := ⟨fun x hx => R.len x (List.mem_of_mem_drop (List.mem_of_mem_take hx)), fun i x m y hx hy => by
        rw [List.getElem?_take] at hx
        split at hx
        · rw [List.getElem?_drop] at hx
          obtain ⟨u, hu, hr⟩ := R.cell _ x m y hx hy
          exact ⟨u, by rw [← hu]; congr 2; rw [Nat.add_mul]; omega, hr⟩
        · cases hx⟩
      have R3 : RowR w A' b (off * k) k xs' := R2.view hn hv fun i x y m u c c' hx hy hc hc' hr => by
        exact (ih i x y hx hy).2 m c c' u hc hc' hr
      have := Rel.mk_sl hb (by omega) hcm R3
      rwa [hlen] at this
  | @lp b k i j t xs xs' cap h hn hv ih =>
    refine .one rfl rfl ?_
    intro u hr
    obtain rfl := hr.inv_lp
    obtain ⟨hB, hb⟩ := hL b _ h
    have R3 : RowR w A' b 0 k xs' := (RowR.of_blk hB).view hn hv fun i x y m u c c' hx hy hc hc' hr => (ih i x y hx hy).2 m c c' u hc hc' hr
    have := Rel.mk_rp hb R3 i j
    rwa [Nat.zero_add] at this
  | @sl k xs xs' hn hv ih =>
    refine .one rfl rfl ?_
    intro u hr
    rcases hr.inv_sl with ⟨rfl, a, cap, rfl, hc⟩ | ⟨b, off, cap, rfl, hb, hl, hc, R⟩
    · have : xs' = [] := List.eq_nil_of_length_eq_zero hn
      subst this; exact .sl0 _ _ _ hc
    · have R3 : RowR w A' b off k xs' := R.view hn hv fun i x y m u c c' hx hy hc hc' hr => (ih i x y hx hy).2 m c c' u hc hc' hr
      have := Rel.mk_sl (hA b hb) (by omega) hc R3
      rwa [hn] at this
  | @rp k i j xs xs' hn hv ih =>
    refine .one rfl rfl ?_
    intro u hr
    obtain ⟨b, off, rfl, hb, R⟩ := hr.inv_rp2
    have R3 : RowR w A' b off k xs' := R.view hn hv fun i x y m u c c' hx hy hc hc' hr => (ih i x y hx hy).2 m c c' u hc hc' hr
    exact Rel.mk_rp (hA b hb) R3 i j
  | @agg xs xs' hn hv ih =>
    refine ⟨?_, fun m c c' u hc hc' h => (ih m c c' hc hc').1 u h⟩
    intro u hr
    cases hr with
    | agg _ us hn' hh =>
    exact .agg _ _ (by omega) fun i c u hc hu => by
      have hx := List.getElem?_eq_getElem (show i < xs.length by have := (List.getElem?_eq_some_iff.1 hc).1; omega)
      exact (ih i _ _ hx hc).1 _ (hh i _ _ hx hu)
  | @tup xs xs' hn hv ih =>
    refine .one rfl rfl ?_
    intro u hr
    cases hr with
    | tup _ us hn' hh =>
    exact .tup _ _ (by omega) fun i c u hc hu => by
      have hx := List.getElem?_eq_getElem (show i < xs.length by have := (List.getElem?_eq_some_iff.1 hc).1; omega)
      exact (ih i _ _ hx hc).1 _ (hh i _ _ hx hu)
  | @clo f xs xs' hn hv ih =>
    refine .one rfl rfl ?_
    intro u hr
    cases hr with
    | clo _ _ us hn' hh =>
    exact .clo _ _ _ (by omega) fun i c u hc hu => by
      have hx := List.getElem?_eq_getElem (show i < xs.length by have := (List.getElem?_eq_some_iff.1 hc).1; omega)
      exact (ih i _ _ hx hc).1 _ (hh i _ _ hx hu)
  | fn f => refine .one rfl rfl ?_; intro u hr; obtain rfl := hr.inv_v; exact .clo f [] #[] rfl fun i c u h => by simp at h
  | @lm b ks vs vs' h hn hv ih =>
    refine .one rfl rfl ?_
    intro u hr
    obtain ⟨⟨es, clock, h1, h2, h3, _, _, h6⟩, hb⟩ := hL b _ h
    cases hr with
    | lm _ =>
    exact .rm ks vs' b es clock hb h1 h2 (by omega) fun i x e hx he => by
      have hy := List.getElem?_eq_getElem (show i < vs.length by have := (List.getElem?_eq_some_iff.1 hx).1; omega)
      exact (ih i _ _ hy hx).1 _ (h6 i _ e hy he)
theorem Rel.view {A' : Foot} {a a' : AV} (hv : Vw L a a') (hL : ∀ b x, lk L b = some x → BlkRel w A b x ∧ A' b) (hA : ∀ b, A b → A' b) {u : Value} (h : Rel w A a u) : Rel w A' a' u := (Rel.view2 hv hL hA).1 u h
end
end Go.AL
