/- The layer AL, part 4: parts put into aggregates and rows. No condition. -/
import Derived.Test.YtkfkdmefabefkaaAlSound
namespace Go.AL
open Go Go.RowKit

def splice {α : Type} (cs : List α) (off : Nat) (vs : List α) : List α := cs.take off ++ vs ++ cs.drop (off + vs.length)
theorem splice_get {α : Type} (cs : List α) (off : Nat) (vs : List α) (h : off + vs.length ≤ cs.length) (m : Nat) :
    (splice cs off vs)[m]? = if off ≤ m ∧ m < off + vs.length then vs[m - off]? else cs[m]? := by
  unfold splice
  rw [List.append_assoc, List.getElem?_append, List.getElem?_append]
  have ht : (cs.take off).length = off := by simp; omega
  rw [ht]
  by_cases h1 : m < off
  · rw [if_pos h1, if_neg (by omega), List.getElem?_take, if_pos h1]
  · rw [if_neg h1]
    by_cases h2 : m - off < vs.length
    · rw [if_pos h2, if_pos (by omega)]
    · rw [if_neg h2, if_neg (by omega), List.getElem?_drop]
      congr 1; omega
theorem splice_length {α : Type} (cs : List α) (off : Nat) (vs : List α) (h : off + vs.length ≤ cs.length) : (splice cs off vs).length = cs.length := by
  unfold splice; simp; omega

section
variable {P : Program} {w : World} {A : Foot}
theorem one_ok {x : AV} {u : Value} (h : Rel w A x u) (ho : one x = true) : u.oneCell' = true := by
  cases h <;> first | rfl | exact ho | (simp [one] at ho)
theorem one_cells {x : AV} (ho : one x = true) : x.cells = [x] := by cases x <;> first | rfl | (simp [one] at ho)
theorem oneCell_cells {u : Value} (h : u.oneCell' = true) : u.cells = #[u] := by cases u <;> first | rfl | (simp [Value.oneCell'] at h)
theorem cells_ok {x : AV} {u : Value} (h : Rel w A x u) (ho : okv x = true) : Rels w A x.cells u.cells.toList ∧ ∀ c ∈ u.cells.toList, c.oneCell' = true := by
  by_cases h1 : one x = true
  · rw [one_cells h1, oneCell_cells (one_ok h h1)]
    exact ⟨Rels.cons h Rels.nil, fun c hc => by simp at hc; subst hc; exact one_ok h h1⟩
  · cases h with
    | agg cs us hn hh =>
      have hall : ∀ c ∈ cs, one c = true := by simpa [okv] using ho
      refine ⟨⟨by simpa [AV.cells, Value.cells] using hn, fun i a v ha hv => hh i a v ha (by simpa [Value.cells] using hv)⟩, fun c hc => ?_⟩
      obtain ⟨i, hi⟩ := List.getElem?_of_mem hc
      have hi' : us[i]? = some c := by simpa [Value.cells] using hi
      have hlt : i < cs.length := by have := (Array.getElem?_eq_some_iff.1 hi').1; omega
      exact one_ok (hh i _ _ (List.getElem?_eq_getElem hlt) hi') (hall _ (List.getElem_mem hlt))
    | v z => simp [okv] at ho; exact absurd ho h1
    | _ => exact absurd ho h1

theorem foldl_set (off : Nat) : ∀ (vs : List Value) (k : Nat) (cells : Array Value) (m : Nat), off + k + vs.length ≤ cells.size →
    ((vs.zipIdx k).foldl (fun (cs : Array Value) (p : Value × Nat) => cs.setIfInBounds (off + p.2) p.1) cells)[m]? = if off + k ≤ m ∧ m < off + k + vs.length then vs[m - (off + k)]? else cells[m]?
  | [], k, cells, m, _ => by simp; intro h1 h2; omega
  | v :: vs, k, cells, m, h => by
    simp only [List.zipIdx_cons, List.foldl_cons]
    rw [foldl_set off vs (k + 1) (cells.setIfInBounds (off + k) v) m (by simp at h ⊢; omega)]
    simp only [List.length_cons] at h ⊢
    by_cases h1 : m = off + k
    · subst h1
      rw [if_neg (by omega), if_pos (by omega)]
      simp [show off + k < cells.size by omega]
    · by_cases h2 : off + k ≤ m ∧ m < off + k + (vs.length + 1)
      · rw [if_pos (by omega), if_pos h2, show m - (off + k) = (m - (off + (k + 1))) + 1 by omega, List.getElem?_cons_succ]
      · rw [if_neg (by omega), if_neg h2, Array.getElem?_setIfInBounds_ne (by omega)]

/-- The cells of one part, laid in. -/
def layIn (cells : Array Value) (off : Nat) (v : Value) : Array Value := v.cells.zipIdx.foldl (fun cs (c, j) => cs.setIfInBounds (off + j) c) cells
theorem layIn_get {cells : Array Value} {off : Nat} {v : Value} (h : off + v.cells.size ≤ cells.size) (m : Nat) :
    (layIn cells off v)[m]? = if off ≤ m ∧ m < off + v.cells.size then v.cells[m - off]? else cells[m]? := by
  have := foldl_set off v.cells.toList 0 cells m (by simpa using h)
  simp only [Nat.add_zero, Array.length_toList, Array.getElem?_toList] at this
  rw [← this]
  unfold layIn
  rw [← Array.foldl_toList, Array.toList_zipIdx]
theorem layIn_size {cells : Array Value} {off : Nat} {v : Value} (h : off + v.cells.size ≤ cells.size) : (layIn cells off v).size = cells.size := by
  apply Nat.le_antisymm
  · apply Nat.le_of_not_lt; intro hlt
    have := layIn_get h cells.size
    rw [Array.getElem?_eq_getElem hlt, if_neg (by omega)] at this
    simp at this
  · apply Nat.le_of_not_lt; intro hlt
    have := layIn_get h (layIn cells off v).size
    rw [Array.getElem?_eq_none (Nat.le_refl _)] at this
    split at this
    · rename_i h1
      have := this.symm
      rw [Array.getElem?_eq_none_iff] at this; omega
    · have := this.symm
      rw [Array.getElem?_eq_none_iff] at this; omega

def fillAV (place : Nat → Option (Nat × Nat)) (cells : List AV) : List (Nat × AV) → Option (Prop × List AV)
  | [] => some (True, cells)
  | (i, x) :: r => match place i with
    | some (off, size) => match fillAV place (splice cells off x.cells) r with
      | some (c, out) => some ((okv x = true ∧ x.cells.length = size ∧ off + size ≤ cells.length) ∧ c, out)
      | none => none
    | none => none

theorem fill_ok {place : Nat → Option (Nat × Nat)} : ∀ (parts : List (Nat × AV)) (partsV : List (Nat × Value)) (cells : List AV) (cs : Array Value) (c : Prop) (out : List AV),
    partsV.map (·.1) = parts.map (·.1) → Rels w A (parts.map (·.2)) (partsV.map (·.2)) → Rels w A cells cs.toList → fillAV place cells parts = some (c, out) → c →
    ∃ o, Instr.fill place cs partsV = some o ∧ Rels w A out o.toList
  | [], partsV, cells, cs, c, out, h1, h2, h3, h4, h5 => by
    have : partsV = [] := by simpa using h1
    subst this
    simp only [fillAV] at h4; cases h4
    exact ⟨cs, rfl, h3⟩
  | (i, x) :: r, partsV, cells, cs, c, out, h1, h2, h3, h4, h5 => by
    cases partsV with
    | nil => simp at h1
    | cons pv rv =>
    obtain ⟨i', u⟩ := pv
    simp only [List.map_cons, List.cons.injEq] at h1
    obtain ⟨rfl, h1⟩ := h1
    obtain ⟨u', us', e, hu, hr⟩ := Rels.inv_cons h2
    simp only [List.map_cons, List.cons.injEq] at e
    obtain ⟨rfl, rfl⟩ := e
    simp only [fillAV] at h4
    split at h4
    · rename_i off size hp
      split at h4
      · rename_i c' out' hf
        cases h4
        obtain ⟨⟨ho, hs, hb⟩, hc'⟩ := h5
        obtain ⟨hcells, hone⟩ := cells_ok hu ho
        have hsz : u.cells.size = size := by have := hcells.1; simp at this; omega
        have hcs : cs.size = cells.length := by have := h3.1; simpa using this
        have hfit : off + u.cells.size ≤ cs.size := by omega
        have h3' : Rels w A (splice cells off x.cells) (layIn cs off u).toList := by
          refine ⟨by rw [splice_length _ _ _ (by omega)]; simp [layIn_size hfit, hcs], fun m a v ha hv => ?_⟩
          rw [splice_get _ _ _ (by omega)] at ha
          rw [Array.getElem?_toList, layIn_get hfit] at hv
          rw [hs] at ha; rw [hsz] at hv
          split at ha
          · rename_i hm; rw [if_pos hm] at hv
            exact hcells.2 _ _ _ ha (by simpa using hv)
          · rename_i hm; rw [if_neg hm] at hv
            exact h3.2 _ _ _ ha (by simpa using hv)
        obtain ⟨o, hfill, hrel⟩ := fill_ok r rv _ (layIn cs off u) c' out h1 hr h3' hf hc'
        refine ⟨o, ?_, hrel⟩
        simp only [Instr.fill, hp]
        rw [if_neg (by simp; omega)]
        exact hfill
      · cases h4
    · cases h4

def placeF (P : Program) (fs : List (Nat × TypeId)) (i : Nat) : Option (Nat × Nat) :=
  match fs[i]? with
  | some (off, ft) => match tinfo P ft with
    | some fi => some (off, fi.size)
    | none => none
  | none => none
def aBuild (P : Program) (t : TypeId) (parts : List (Nat × AV)) : Option (Prop × AV) :=
  match tinfo P t with
  | some ⟨.struct fs, _, _, z⟩ =>
    if fs.all (fun f => (tinfo P f.2).isSome) then
      match fillAV (placeF P fs) z.cells parts with
      | some (c, out) => some (c, .agg out)
      | none => none
    else none
  | some ⟨.arr _ e, _, _, z⟩ => match tinfo P e with
    | some ei => match fillAV (fun i => some (i * ei.size, ei.size)) z.cells parts with
      | some (c, out) => some (c, .agg out)
      | none => none
    | none => none
  | _ => none

theorem zav_cells (z : Value) : Rels w A (zav z).cells z.cells.toList := by
  cases z with
  | agg cs =>
    refine ⟨by simp [zav, AV.cells, Value.cells], fun i a v ha hv => ?_⟩
    simp only [zav, AV.cells, List.getElem?_map, Option.map_eq_some_iff] at ha
    obtain ⟨u, hu, rfl⟩ := ha
    simp only [Value.cells] at hv
    rw [hu] at hv; cases hv; exact .v _
  | _ => exact Rels.cons (.v _) Rels.nil

theorem mapM_places (fs : List Field) (g : Field → Nat × Nat) (h : ∀ f ∈ fs, (sizeOf f.type).run P w = .ok (g f).2 w) (hg : ∀ f, (g f).1 = f.offset) :
    (fs.mapM (m := Sem) fun f => do pure (f.offset, ← sizeOf f.type)).run P w = .ok (fs.map g) w := by
  induction fs with
  | nil => rfl
  | cons f fs ih =>
    simp only [List.mapM_cons, Sem.run_bind, h f (by simp), Result.andThen_ok, Sem.run_pure, ih (fun f hf => h f (by simp [hf])), List.map_cons]
    rw [show (f.offset, (g f).2) = g f by rw [← hg f]]

theorem aBuild_ok {t : TypeId} {parts : List (Nat × AV)} {partsV : Array (Nat × Value)} {c : Prop} {x : AV} (h : aBuild P t parts = some (c, x)) (hc : c)
    (h1 : partsV.toList.map (·.1) = parts.map (·.1)) (h2 : Rels w A (parts.map (·.2)) (partsV.toList.map (·.2))) : ∃ u, (Instr.build t partsV).run P w = .ok u w ∧ Rel w A x u := by
  unfold aBuild at h
  split at h
  · rename_i fs _ _ z hti
    obtain ⟨d, inf, z', hd, hinf, hz, e⟩ := tinfo_inv hti
    simp only [TI.mk.injEq] at e
    obtain ⟨e1, -, -, rfl⟩ := e
    obtain ⟨fa, rfl, rfl⟩ := tk_struct e1.symm
    split at h
    · rename_i hall
      split at h
      · rename_i c' out hf
        cases h
        have hzc := zav_cells (w := w) (A := A) z'
        have hall' : ∀ f ∈ fa.toList, ∃ ti, tinfo P f.type = some ti := fun f hf => by
          have := List.all_eq_true.1 hall (f.offset, f.type) (List.mem_map.2 ⟨f, hf, rfl⟩)
          exact Option.isSome_iff_exists.1 this
        obtain ⟨o, hfill, hrel⟩ := fill_ok parts partsV.toList _ z'.cells c out h1 h2 hzc hf hc
        let g : Field → Nat × Nat := fun f => (f.offset, ((tinfo P f.type).map (·.size)).getD 0)
        have hm := mapM_places (P := P) (w := w) fa.toList g (fun f hf => by
          obtain ⟨ti, hti'⟩ := hall' f hf
          obtain ⟨d2, inf2, z2, hd2, hinf2, hz2, rfl⟩ := tinfo_inv hti'
          rw [run_sizeOf_i hinf2]; simp [g, hti']) (fun f => rfl)
        have hplace : ∀ i, (fa.toList.map g)[i]? = placeF P (fa.toList.map fun f => (f.offset, f.type)) i := fun i => by
          unfold placeF
          rw [List.getElem?_map, List.getElem?_map]
          cases hi : fa.toList[i]? with
          | none => rfl
          | some f =>
            obtain ⟨ti, hti'⟩ := hall' f (List.mem_of_getElem? hi)
            simp [g, hti']
        refine ⟨.agg o, ?_, .agg _ _ (by have := hrel.1; simpa using this) (fun i a u ha hu => hrel.2 i a u ha (by simpa using hu))⟩
        have hm' : (fa.mapM (m := Sem) fun f => do pure (f.offset, ← sizeOf f.type)).run P w = .ok ((fa.toList.map g).toArray) w := by
          rw [Array.mapM_eq_mapM_toList, Sem.run_map, hm]; rfl
        simp only [Instr.build, Sem.run_bind, run_zeroValue_i hinf hz, Result.andThen_ok, run_underlying hd]
        rw [hm']
        simp only [Result.andThen_ok, List.getElem?_toArray]
        rw [show (fun i => (fa.toList.map g)[i]?) = placeF P (fa.toList.map fun f => (f.offset, f.type)) from funext hplace, hfill]
        rfl
      · cases h
    · cases h
  · rename_i n e _ _ z hti
    obtain ⟨d, inf, z', hd, hinf, hz, e'⟩ := tinfo_inv hti
    simp only [TI.mk.injEq] at e'
    obtain ⟨e1, -, -, rfl⟩ := e'
    obtain rfl := tk_arr e1.symm
    split at h
    · rename_i ei hei
      obtain ⟨d2, inf2, z2, hd2, hinf2, hz2, rfl⟩ := tinfo_inv hei
      split at h
      · rename_i c' out hf
        cases h
        obtain ⟨o, hfill, hrel⟩ := fill_ok parts partsV.toList _ z'.cells c out h1 h2 (zav_cells z') hf hc
        refine ⟨.agg o, ?_, .agg _ _ (by have := hrel.1; simpa using this) (fun i a u ha hu => hrel.2 i a u ha (by simpa using hu))⟩
        simp only [Instr.build, Sem.run_bind, run_zeroValue_i hinf hz, Result.andThen_ok, run_underlying hd, run_sizeOf_i hinf2, hfill]
        rfl
      · cases h
    · cases h
  · cases h
end
end Go.AL
