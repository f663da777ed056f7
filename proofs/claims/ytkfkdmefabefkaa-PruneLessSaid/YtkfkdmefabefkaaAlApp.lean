/- The layer AL, part 7: append and copy. No condition. -/
import Derived.Test.YtkfkdmefabefkaaAlHeap
namespace Go.AL
open Go Go.RowKit

section
variable {P : Program} {w : World} {A : Foot}

theorem size_zeros (z : Value) {k : Nat} (hz : z.cells.size = k) (n : Nat) : (Builtin.zeroCells z.cells n).size = n * k := by rw [size_zeroCells, hz]

def AppOk (n bytes : Nat) : Prop := n * bytes ≤ 140737488355328 ∧ n ≤ 9223372036854775807

/-- Append to nil. -/
theorem append_nil_ok {t ty e : TypeId} {s b : Nat} {z : AV} (ht : tinfo P t = some ⟨.slice e, s, b, z⟩) {ei : TI} (he : tinfo P e = some ei) (hzl : ei.zero.cells.length = ei.size) (_hp : 0 < ei.size)
    {ys : List AV} {u : Value} {news : List Value} (S : SrcOk w A ei.size ys u news) (hb : AppOk ys.length ei.bytes) :
    (ys = [] ∧ (Builtin.append_ #[t, t] ty #[.slice none 0 0, u]).run P w = .ok (.slice none 0 0) w) ∨
    (ys ≠ [] ∧ ∃ c cap, (Builtin.append_ #[t, t] ty #[.slice none 0 0, u]).run P w = .ok (.slice (some ⟨w.heap.size, 0, none⟩) ys.length cap) (w.drew.alloc (.cells c e)) ∧
      ys.length ≤ cap ∧ cap ≤ maxLen ∧ c.size = cap * ei.size ∧ ElemC w A ei.size ys c.toList) := by
  have hd := tinfo_slice ht
  obtain ⟨d2, inf2, z2, hd2, hinf2, hz2, rfl⟩ := tinfo_inv he
  by_cases hy : ys = []
  · refine .inl ⟨hy, ?_⟩
    rcases S.shape with ⟨a, cap, rfl, _⟩ | ⟨rfl, _, _⟩ | ⟨a, cap, rfl, _, _⟩
    · subst hy
      simp [Builtin.append_, run_underlying hd, sizeOf, typeInfo, hinf2, Builtin.lenOf, Builtin.firstCells, loadCells, loadCellsFrom]
    · simp [Builtin.append_, run_underlying hd, sizeOf, typeInfo, hinf2, Builtin.lenOf, Builtin.firstCells]
    · cases a <;> simp [Builtin.append_, run_underlying hd, sizeOf, typeInfo, hinf2, Builtin.lenOf, Builtin.firstCells, loadCells, loadCellsFrom]
  · refine .inr ⟨hy, ?_⟩
    rcases S.shape with ⟨a, cap, rfl, hc⟩ | ⟨_, h, _⟩ | ⟨_, _, _, h, _⟩
    · have h0 : 0 < ys.length := List.length_pos_iff.2 hy
      have hr := run_append_nil (P := P) w t ty e inf2 z2 hd hinf2 hz2 a ys.length cap news S.len hc h0 (by have := hb.2; omega) (by have := hb.1; dsimp only at this; omega)
      refine ⟨_, _, hr, grownCap_ge _ _ _ _, grownCap_le_maxLen _ _ _ _ (by have := hb.2; simp only [maxLen]; omega), ?_, ?_⟩
      · have hz3 : z2.cells.size = inf2.size := by have := (zav_cells (w := w) (A := A) z2).1; simp at this; dsimp only at hzl; omega
        rw [Array.size_append, List.size_toArray, S.len, size_zeros z2 hz3, ← Nat.add_mul]
        congr 1; have := grownCap_ge w ys.length 0 e; omega
      · rw [Array.toList_append]
        exact S.el.tail _ (by simp [S.len])
    · exact absurd h hy
    · exact absurd h hy

/-- Append to a slice of an owned block. -/
theorem append_ok {t ty e : TypeId} {s b' : Nat} {z : AV} (ht : tinfo P t = some ⟨.slice e, s, b', z⟩) {ei : TI} (he : tinfo P e = some ei) (hzl : ei.zero.cells.length = ei.size) (_hp : 0 < ei.size)
    {ys : List AV} {u : Value} {news : List Value} (S : SrcOk w A ei.size ys u news) {b : Nat} {xs : List AV} {capb : Nat} (hB : BlkRel w A b (.row e ei.size xs capb)) (hA : ¬ A b)
    {off len cap o : Nat} (hle : len ≤ cap) (ho : o = off * ei.size ∨ cap = 0) (h1 : off + len ≤ xs.length) (h2 : off + cap ≤ capb) (hb : AppOk (len + ys.length) ei.bytes) :
    (len + ys.length ≤ cap ∧ ∃ w', (Builtin.append_ #[t, t] ty #[.slice (some ⟨b, o, none⟩) len cap, u]).run P w = .ok (.slice (some ⟨b, o, none⟩) (len + ys.length) cap) w' ∧
      (∀ m, m ≠ b → w'.heap[m]? = w.heap[m]?) ∧ w'.heap.size = w.heap.size ∧ w'.os = w.os ∧ w'.tape = w.tape ∧ w'.output = w.output ∧ BlkRel w' A b (.row e ei.size (xs.take (off + len) ++ ys) capb)) ∨
    (∃ c cap', (Builtin.append_ #[t, t] ty #[.slice (some ⟨b, o, none⟩) len cap, u]).run P w = .ok (.slice (some ⟨w.heap.size, 0, none⟩) (len + ys.length) cap') (w.drew.alloc (.cells c e)) ∧
      len + ys.length ≤ cap' ∧ cap' ≤ maxLen ∧ c.size = cap' * ei.size ∧ ElemC w A ei.size ((xs.drop off).take len ++ ys) c.toList) := by
  have hd := tinfo_slice ht
  obtain ⟨d2, inf2, z2, hd2, hinf2, hz2, rfl⟩ := tinfo_inv he
  dsimp only at *
  obtain ⟨c, hc, hsz, hl, hcap, E⟩ := BlkRel.row_iff.1 hB
  have first : ∀ w : World, (∀ (a : Addr), w.cell? a = w.cell? a) → True := fun _ _ => trivial
  by_cases hroom : len + ys.length ≤ cap
  · refine .inl ⟨hroom, ?_⟩
    have hfc : ∀ a, (∃ ad cp, u = .slice (some ad) ys.length cp ∧ ∀ (j : Nat) v, news[j]? = some v → w.cell? (ad.add j) = some v) ∨ a → True := fun _ _ => trivial
    have hrunf : (Builtin.firstCells inf2.size ys.length u).run P w = .ok news.toArray w := by
      rcases S.shape with ⟨a, cp, rfl, hcc⟩ | ⟨rfl, h, h'⟩ | ⟨a, cp, rfl, h, h'⟩
      · exact run_firstCells_some (P := P) w inf2.size ys.length a ys.length cp news S.len hcc
      · subst h'; simp [Builtin.firstCells]
      · subst h; subst h'; cases a <;> simp [Builtin.firstCells, loadCells, loadCellsFrom]
    have hlenof : (Builtin.lenOf u).run P w = .ok ys.length w := by
      rcases S.shape with ⟨a, cp, rfl, hcc⟩ | ⟨rfl, h, h'⟩ | ⟨a, cp, rfl, h, h'⟩
      · rfl
      · subst h; rfl
      · subst h; rfl
    have happ : ∀ w', (storeCells ((⟨b, o, none⟩ : Addr).add (len * inf2.size)) news).run P w = .ok () w' →
        (Builtin.append_ #[t, t] ty #[.slice (some ⟨b, o, none⟩) len cap, u]).run P w = .ok (.slice (some ⟨b, o, none⟩) (len + ys.length) cap) w' := fun w' hst => by
      simp [Builtin.append_, run_underlying hd, sizeOf, typeInfo, hinf2, hlenof, hroom, hrunf, hst]
    by_cases hc0 : cap = 0
    · have hy : ys = [] := List.eq_nil_of_length_eq_zero (by omega)
      have hn : news = [] := List.eq_nil_of_length_eq_zero (by rw [S.len, hy]; simp)
      refine ⟨w, happ w (by rw [hn]; rfl), fun _ _ => rfl, rfl, rfl, rfl, rfl, ?_⟩
      refine BlkRel.row_iff.2 ⟨c, hc, hsz, by rw [hy]; simp; omega, hcap, ?_⟩
      rw [hy, List.append_nil]
      exact ⟨fun x hx => E.ok x (List.mem_of_mem_take hx), fun i x j y v hx hy hv => by
        rw [List.getElem?_take] at hx
        split at hx
        · exact E.rel i x j y v hx hy hv
        · cases hx⟩
    · have ho : o = off * inf2.size := by rcases ho with ho | ho; exact ho; exact absurd ho hc0
      subst ho
      have hfit : off * inf2.size + len * inf2.size + 0 + news.length ≤ c.size := by
        rw [S.len, hsz]
        have : (off + len + ys.length) * inf2.size ≤ capb * inf2.size := Nat.mul_le_mul_right _ (by omega)
        rw [Nat.add_mul, Nat.add_mul] at this; omega
      have hrun := run_storeCells_at P b (off * inf2.size + len * inf2.size) e news 0 c w hc hfit S.one
      generalize hnew : (c.toList.take (off * inf2.size + len * inf2.size + 0) ++ news ++ c.toList.drop (off * inf2.size + len * inf2.size + 0 + news.length)).toArray = cn at hrun
      have hcn : cn.toList = c.toList.take ((off + len) * inf2.size) ++ (news ++ c.toList.drop (off * inf2.size + len * inf2.size + 0 + news.length)) := by
        rw [← hnew, Nat.add_mul]; simp
      have keep : ∀ m, A m → (w.setRow b cn).heap[m]? = w.heap[m]? := fun m hm => setRow_other w b m cn (fun e => hA (e ▸ hm))
      refine ⟨w.setRow b cn, happ _ (by rw [Addr.add_lit]; exact hrun), fun m hm => setRow_other w b m cn hm, size_setRow w b cn, rfl, rfl, rfl, ?_⟩
      refine BlkRel.row_iff.2 ⟨cn, setRow_heap w b c cn e _ hc, ?_, ?_, hcap, ?_⟩
      · rw [← hnew, List.size_toArray]
        simp only [List.length_append, List.length_take, List.length_drop, Array.length_toList]
        omega
      · simp; omega
      · rw [hcn]
        have htl : (xs.take (off + len)).length = off + len := by simp; omega
        refine ElemC.later (w := w) (A := A) (ElemC.append (E.take (off + len)) (S.el.tail _ (by rw [S.len]; exact Nat.le_refl _)) ?_) keep (fun _ h => h)
        rw [htl, List.length_take, Array.length_toList, hsz]
        have : (off + len) * inf2.size ≤ capb * inf2.size := Nat.mul_le_mul_right _ (by omega)
        omega
  · refine .inr ?_
    rcases S.shape with ⟨a, cp, rfl, hcc⟩ | ⟨rfl, h, h'⟩ | ⟨a, cp, rfl, h, h'⟩
    · have hosz : len = 0 ∨ o = off * inf2.size := by rcases ho with ho | ho; exact .inr ho; exact .inl (by omega)
      have hcl : (off + len) * inf2.size ≤ c.toList.length := by rw [Array.length_toList, hsz]; exact Nat.mul_le_mul_right _ (by omega)
      have hol : ((c.toList.drop (off * inf2.size)).take (len * inf2.size)).length = len * inf2.size := by
        rw [List.length_take, List.length_drop]; rw [Nat.add_mul] at hcl; omega
      have holds : ∀ (j : Nat) v, ((c.toList.drop (off * inf2.size)).take (len * inf2.size))[j]? = some v → w.cell? ((⟨b, o, none⟩ : Addr).add j) = some v := fun j v hv => by
        have hj : j < len * inf2.size := by have := (List.getElem?_eq_some_iff.1 hv).1; omega
        rcases hosz with hl0 | rfl
        · subst hl0; simp at hj
        · rw [Addr.add_lit, cell_of_row w b _ c e _ hc]
          rw [List.getElem?_take, if_pos hj, List.getElem?_drop] at hv
          simpa using hv
      have hr := run_append_grow (P := P) w t ty e inf2 z2 hd hinf2 hz2 ⟨b, o, none⟩ len cap _ hol holds a ys.length cp news S.len hcc (by omega) (by have := hb.2; omega) (growslice_fits (by omega) hb.1)
      refine ⟨_, _, hr, grownCap_ge _ _ _ _, grownCap_le_maxLen _ _ _ _ (by have := hb.2; simp only [maxLen]; omega), ?_, ?_⟩
      · have hz3 : z2.cells.size = inf2.size := by have := (zav_cells (w := w) (A := A) z2).1; simp at this; omega
        rw [Array.size_append, Array.size_append, List.size_toArray, List.size_toArray, S.len, hol, size_zeros z2 hz3, ← Nat.add_mul, ← Nat.add_mul]
        congr 1; have := grownCap_ge w (len + ys.length) cap e; omega
      · rw [Array.toList_append, Array.toList_append]
        have htl : ((xs.drop off).take len).length = len := by simp; omega
        refine ElemC.tail (ElemC.append ((E.drop off).take len) S.el (by rw [htl]; exact hol)) _ ?_
        rw [List.length_append, htl, Nat.add_mul]
        have e1 := hol
        have e2 := S.len
        show _ ≤ (List.take (len * inf2.size) (List.drop (off * inf2.size) c.toList) ++ news).length
        rw [List.length_append]; omega
    · subst h; simp at hroom; omega
    · subst h; simp at hroom; omega

theorem ElemC.splice {k : Nat} {xs ys : List AV} {c d : List Value} (h : ElemC w A k xs c) (g : ElemC w A k ys d) {off : Nat} (hd : d.length = ys.length * k) (hy : off + ys.length ≤ xs.length) (hc : xs.length * k ≤ c.length) :
    ElemC w A k (splice xs off ys) (splice c (off * k) d) := by
  unfold AL.splice
  have h1 : (off + ys.length) * k ≤ xs.length * k := Nat.mul_le_mul_right _ hy
  rw [Nat.add_mul] at h1
  have ht : (xs.take off).length = off := by simp; omega
  rw [show off * k + d.length = (off + ys.length) * k by rw [hd, Nat.add_mul]]
  refine ElemC.append (ElemC.append (h.take off) g ?_) (h.drop _) ?_
  · rw [ht, List.length_take]; omega
  · rw [List.length_append, List.length_append, ht, List.length_take, hd, Nat.add_mul]; omega

theorem copy_ok {t u' ty e : TypeId} {s b' : Nat} {z : AV} (ht : tinfo P t = some ⟨.slice e, s, b', z⟩) {ei : TI} (he : tinfo P e = some ei) (hp : 0 < ei.size)
    {ys : List AV} {u : Value} {news : List Value} (S : SrcOk w A ei.size ys u news) {b : Nat} {t' : TypeId} {xs : List AV} {capb : Nat} (hB : BlkRel w A b (.row t' ei.size xs capb)) (hA : ¬ A b)
    {off len cap o : Nat} (hle : len ≤ cap) (ho : o = off * ei.size ∨ cap = 0) (h1 : off + len ≤ xs.length) :
    ∃ w', (Builtin.copy_ #[t, u'] ty #[.slice (some ⟨b, o, none⟩) len cap, u]).run P w = .ok (.int .i64 (min ys.length len : Nat)) w' ∧
      (∀ m, m ≠ b → w'.heap[m]? = w.heap[m]?) ∧ w'.heap.size = w.heap.size ∧ w'.os = w.os ∧ w'.tape = w.tape ∧ w'.output = w.output ∧ BlkRel w' A b (.row t' ei.size (splice xs off (ys.take (min ys.length len))) capb) := by
  have hd := tinfo_slice ht
  obtain ⟨d2, inf2, z2, hd2, hinf2, hz2, rfl⟩ := tinfo_inv he
  dsimp only at *
  obtain ⟨c, hc, hsz, hl, hcap, E⟩ := BlkRel.row_iff.1 hB
  generalize hn : min ys.length len = n
  have hnl : (ys.take n).length = n := by simp; omega
  have hnn : (news.take (n * inf2.size)).length = n * inf2.size := by
    rw [List.length_take, S.len]
    have : n * inf2.size ≤ ys.length * inf2.size := Nat.mul_le_mul_right _ (by omega)
    omega
  have hlenof : (Builtin.lenOf u).run P w = .ok ys.length w := by
    rcases S.shape with ⟨a, cp, rfl, hcc⟩ | ⟨rfl, h, h'⟩ | ⟨a, cp, rfl, h, h'⟩
    · rfl
    · subst h; rfl
    · subst h; rfl
  have hrunf : (Builtin.firstCells inf2.size n u).run P w = .ok (news.take (n * inf2.size)).toArray w := by
    rcases S.shape with ⟨a, cp, rfl, hcc⟩ | ⟨rfl, h, h'⟩ | ⟨a, cp, rfl, h, h'⟩
    · exact run_firstCells_some (P := P) w inf2.size n a ys.length cp _ hnn (fun j v hv => by
        rw [List.getElem?_take] at hv
        split at hv
        · exact hcc j v hv
        · cases hv)
    · subst h'; simp [Builtin.firstCells]
    · subst h; subst h'
      have : n = 0 := by simp at hn; omega
      subst this
      cases a <;> simp [Builtin.firstCells, loadCells, loadCellsFrom]
  have hcopy : ∀ w', (storeCells ⟨b, o, none⟩ (news.take (n * inf2.size))).run P w = .ok () w' →
      (Builtin.copy_ #[t, u'] ty #[.slice (some ⟨b, o, none⟩) len cap, u]).run P w = .ok (.int .i64 n) w' := fun w' hst => by
    have hnm : Nat.min ys.length len = n := hn
    simp [Builtin.copy_, run_underlying hd, hlenof, run_sizeOf_i hinf2, hnm, hrunf, hst, goInt]
  by_cases hc0 : cap = 0
  · have hn0 : n = 0 := by omega
    refine ⟨w, hcopy w (by rw [hn0]; simp; rfl), fun _ _ => rfl, rfl, rfl, rfl, rfl, ?_⟩
    rw [hn0, List.take_zero]
    unfold splice
    simp only [List.append_nil, List.length_nil, Nat.add_zero, List.take_append_drop]
    exact hB
  · have ho : o = off * inf2.size := by rcases ho with ho | ho; exact ho; exact absurd ho hc0
    subst ho
    have h2 : (off + n) * inf2.size ≤ capb * inf2.size := Nat.mul_le_mul_right _ (by omega)
    rw [Nat.add_mul] at h2
    have hone : ∀ v ∈ news.take (n * inf2.size), v.oneCell' = true := fun v hv => S.one v (List.mem_of_mem_take hv)
    have hrun := run_storeCells_at P b (off * inf2.size) t' (news.take (n * inf2.size)) 0 c w hc (by rw [hnn, hsz]; omega) hone
    generalize hnew : (c.toList.take (off * inf2.size + 0) ++ news.take (n * inf2.size) ++ c.toList.drop (off * inf2.size + 0 + (news.take (n * inf2.size)).length)).toArray = cn at hrun
    have hcn : cn.toList = splice c.toList (off * inf2.size) (news.take (n * inf2.size)) := by rw [← hnew]; rfl
    have keep : ∀ m, A m → (w.setRow b cn).heap[m]? = w.heap[m]? := fun m hm => setRow_other w b m cn (fun e => hA (e ▸ hm))
    refine ⟨w.setRow b cn, hcopy _ hrun, fun m hm => setRow_other w b m cn hm, size_setRow w b cn, rfl, rfl, rfl, ?_⟩
    refine BlkRel.row_iff.2 ⟨cn, setRow_heap w b c cn t' _ hc, ?_, ?_, hcap, ?_⟩
    · rw [← Array.length_toList, hcn, splice_length _ _ _ (by rw [hnn, Array.length_toList, hsz]; omega), Array.length_toList, hsz]
    · rw [splice_length _ _ _ (by rw [hnl]; omega)]; exact hl
    · rw [hcn]
      refine ElemC.later (w := w) (A := A) (E.splice (S.el.take n) (by rw [hnl]; exact hnn) (by rw [hnl]; omega) ?_) keep (fun _ h => h)
      show xs.length * inf2.size ≤ c.size
      rw [hsz]; exact Nat.mul_le_mul_right _ hl
end
end Go.AL
