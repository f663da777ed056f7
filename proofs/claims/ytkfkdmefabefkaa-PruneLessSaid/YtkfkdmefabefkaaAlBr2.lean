/- The layer AL: structs as arguments. No condition. -/
import Derived.Test.YtkfkdmefabefkaaAlBr
namespace Go.AL
open Go Go.RowKit Go.ChangeShapes Go.WideShapes Go.ChangeAt
section
variable {H : Type} {enc : TypeId × Value → H} {P : Program} {W : World} {t : TypeId}
theorem Rd.map {α β : Type} {k : Nat} {E : α → AV} {E' : β → AV} {ok : α → Prop} {ok' : β → Prop} (f : α → β) (hE : ∀ y, E y = E' (f y)) (hok : ∀ y, ok y → ok' (f y)) (h : Rd enc P W t k E ok) : Rd enc P W t k E' ok' := by
  intro fuel cs x hx
  obtain ⟨y, k1, k2, k3, k4⟩ := h fuel cs x hx
  exact ⟨f y, hok y k1, by rw [← hE]; exact k2, k3, by rw [← hE]; exact k4⟩
/-- Whatever is read at types ts, of one cell each, is E of some value. -/
def RdL (enc : TypeId × Value → H) (P : Program) (W : World) (ts : List TypeId) {α : Type} (E : α → List AV) (ok : α → Prop) : Prop :=
  ∀ (n : Nat) (cs : List Value) (xs : List (DataW H × List MemPlace)), xs.length = ts.length → cs.length = ts.length →
    (∀ (i : Nat) t, ts[i]? = some t → DataW.trod enc P W 0 (fun _ => true) true n t ((cs.drop i).take 1) = xs[i]?) →
    ∃ y, ok y ∧ (E y).length = ts.length ∧ (E y).all one = true ∧ ∀ (i : Nat) c u, (E y)[i]? = some c → cs[i]? = some u → Rel W (fun b => b < W.heap.size) c u
theorem RdL.nil : RdL enc P W [] (fun _ : Unit => []) (fun _ => True) := by
  intro n cs xs _ _ _
  exact ⟨(), trivial, rfl, rfl, fun i c u h => by simp at h⟩
theorem RdL.cons {α β : Type} {E : α → AV} {ok : α → Prop} {ts : List TypeId} {F : β → List AV} {ok' : β → Prop} (h : Rd enc P W t 1 E ok) (h1 : ∀ y, one (E y) = true ∧ (E y).cells = [E y]) (hs : RdL enc P W ts F ok') :
    RdL enc P W (t :: ts) (fun y : α × β => E y.1 :: F y.2) (fun y => ok y.1 ∧ ok' y.2) := by
  intro n cs xs hx hc hi
  match xs, cs, hx, hc with
  | x :: xs, u :: cs, hx, hc =>
    have h0 := hi 0 t rfl
    simp only [List.drop_zero, List.take_succ_cons, List.take_zero, List.getElem?_cons_zero] at h0
    obtain ⟨y, k1, _, _, k4⟩ := h _ _ _ h0
    obtain ⟨z, g1, g2, g3, g4⟩ := hs n cs xs (by simpa using hx) (by simpa using hc) fun i t' ht => by
      have := hi (i + 1) t' (by simpa using ht)
      simpa using this
    refine ⟨(y, z), ⟨k1, g1⟩, by simp [g2], by simp [g3, (h1 y).1], fun i c u' hcc hu => ?_⟩
    cases i with
    | zero => cases hcc; cases hu; exact k4 0 _ _ (by rw [(h1 y).2]; rfl) rfl
    | succ i => exact g4 i c u' (by simpa using hcc) (by simpa using hu)
theorem Rd.struct {fs : Array Field} {α : Type} {ts : List TypeId} {F : α → List AV} {ok : α → Prop} (ht : P.underlying t = some (.struct fs)) (hts : fs.toList.map (·.type) = ts) (hof : fs.toList.map (·.offset) = List.range ts.length) (hk : P.cellsOf t = ts.length)
    (hc : (ts.all fun t => P.cellsOf t == 1) = true) (h : RdL enc P W ts F ok) : Rd enc P W t ts.length (fun y => .agg (F y)) ok := by
  intro fuel cs x hx
  obtain ⟨xs, n, _, _, hl, hlen, hf⟩ := DataW.trod_struct ht hx
  have hfl : fs.size = ts.length := by rw [← hts]; simp
  obtain ⟨y, k1, k2, k3, k4⟩ := h n cs xs (by omega) (by omega) fun i t' ht' => by
    have hi : i < ts.length := (List.getElem?_eq_some_iff.1 ht').1
    have hg : fs[i]? = some fs[i] := Array.getElem?_eq_getElem (by omega)
    have e1 : (fs[i]).type = t' := by
      rw [← hts, List.getElem?_map, Array.getElem?_toList, hg] at ht'
      exact Option.some.inj ht'
    have e2 : (fs[i]).offset = i := by
      have : (fs.toList.map (·.offset))[i]? = some i := by rw [hof, List.getElem?_range hi]
      rw [List.getElem?_map, Array.getElem?_toList, hg] at this
      exact Option.some.inj this
    have := hf i _ hg
    have hct : P.cellsOf t' = 1 := by
      have := List.all_eq_true.1 hc _ (List.mem_of_getElem? ht')
      simpa using this
    rw [e1, e2, hct] at this
    exact this
  exact ⟨y, k1, ⟨k2, k3⟩, by omega, k4⟩
/-- An argument that is a struct. -/
theorem Rd.agg {α : Type} {k : Nat} {E : α → AV} {F : α → List AV} {ok : α → Prop} (hE : ∀ y, E y = .agg (F y)) (h : Rd enc P W t k E ok) {v : Value} {d : DataW H} {ps : List MemPlace} (ha : ∃ us, v = .agg us)
    (hd : DataW.Trod enc P W 0 (fun _ => true) true t v d ps) : ∃ y, ok y ∧ Rel W (fun b => b < W.heap.size) (E y) v := by
  obtain ⟨us, rfl⟩ := ha
  obtain ⟨fuel, hf⟩ := hd
  obtain ⟨y, k1, k2, k3, k4⟩ := h _ _ _ hf
  refine ⟨y, k1, ?_⟩
  have e1 : (E y).cells = F y := by rw [hE]; rfl
  have e2 : (Value.agg us).cells.toList = us.toList := rfl
  have k5 := k2.1
  rw [e1] at k4 k5
  rw [e2] at k3 k4
  rw [hE]
  refine .agg _ _ ?_ fun i c u h1 h2 => k4 i c u h1 (by simpa using h2)
  rw [k5, ← k3]; simp
theorem okWide_agg {r : Go.Reach} {b : Nat} {fs : Array Field} {v : Value} (ht : P.underlying t = some (.struct fs)) (h : Value.okWide P W r b t v) : ∃ us, v = .agg us := by
  unfold Value.okWide at h
  rw [ht] at h
  obtain ⟨cs, h1, _⟩ := h
  exact ⟨cs, h1⟩
theorem Rd.one {α : Type} {E : α → AV} {ok : α → Prop} (h : Rd enc P W t 1 E ok) (h1 : ∀ y, (E y).cells = [E y]) {v : Value} {d : DataW H} {ps : List MemPlace} (hc : v.cells = #[v])
    (hd : DataW.Trod enc P W 0 (fun _ => true) true t v d ps) : ∃ y, ok y ∧ Rel W (fun b => b < W.heap.size) (E y) v := by
  obtain ⟨fuel, hf⟩ := hd
  rw [hc] at hf
  obtain ⟨y, k1, _, _, k4⟩ := h _ _ _ hf
  exact ⟨y, k1, k4 0 _ _ (by rw [h1]; rfl) rfl⟩
theorem okWide_cells {r : Go.Reach} {b : Nat} {e : TypeId} {v : Value} (ht : P.underlying t = some (.slice e)) (h : Value.okWide P W r b t v) : v.cells = #[v] := by
  cases v with
  | agg cs =>
    exfalso
    simp only [Value.okWide, ht, Cell.okWide, Cell.ok] at h
  | _ => rfl
end
end Go.AL
