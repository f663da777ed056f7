/- The layer AL, part 3: what part 2 says of each operation that yields a value is what the model's run yields. No condition. -/
import Derived.Test.YtkfkdmefabefkaaAlPure
namespace Go.AL
open Go Go.RowKit

section
variable {P : Program} {w : World} {A : Foot} {L : AHeap} {c : Prop} {x : AV}

theorem Rel.inv_v {w : World} {A : Foot} {x u : Value} (h : Rel w A (.v x) u) : u = x := by cases h; rfl
theorem Rel.inv_rp {k : Nat} {xs : List AV} {i j : Nat} {u : Value} (h : Rel w A (.rp k xs i j) u) :
    ∃ b off, u = .pointer (some ⟨b, off + (i * k + j), none⟩) ∧ RowR w A b off k xs ∧ ∀ i' j', Rel w A (.rp k xs i' j') (.pointer (some ⟨b, off + (i' * k + j'), none⟩)) := by
  cases h with
  | rp _ _ _ _ b off cc hA hk hw h => exact ⟨b, off, rfl, .of_c hk hw h, fun i' j' => .rp k xs i' j' b off cc hA hk hw h⟩
theorem Rel.inv_lp {b k i j : Nat} {u : Value} (h : Rel w A (.lp b k i j) u) : u = .pointer (some ⟨b, i * k + j, none⟩) := by cases h; rfl
theorem Rel.inv_ls {b k off len cap : Nat} {u : Value} (h : Rel w A (.ls b k off len cap) u) : ∃ o, u = .slice (some ⟨b, o, none⟩) len cap ∧ len ≤ cap ∧ cap ≤ maxLen ∧ (o = off * k ∨ cap = 0) := by
  cases h with
  | ls _ _ _ _ _ o hl hc ho => exact ⟨o, rfl, hl, hc, ho⟩

theorem aLoad_ok {t : TypeId} {p : AV} {pv : Value} (h : aLoad P L t p = some (c, x)) (hc : c) (hL : LRel w A L) (hp : Rel w A p pv) :
    ∃ u, (Instr.loadAt t pv).run P w = .ok u w ∧ Rel w A x u := by
  unfold aLoad at h
  split at h
  · cases h
  · rename_i ti hti
    split at h
    · rename_i k xs i j
      cases h
      obtain ⟨b, off, rfl, R, _⟩ := hp.inv_rp
      obtain ⟨u, hu, hr⟩ := load_ok hti R hc.1 hc.2
      exact ⟨u, by simpa [Instr.loadAt, Instr.sureAddr] using hu, hr⟩
    · rename_i b k i j
      obtain rfl := hp.inv_lp
      split at h
      · rename_i t' k' xs cap hlk
        cases h
        obtain ⟨rfl, h1, h2⟩ := hc
        obtain ⟨u, hu, hr⟩ := load_ok hti (RowR.of_blk (hL.lk hlk)) h1 h2
        rw [Nat.zero_add] at hu
        exact ⟨u, by simpa [Instr.loadAt, Instr.sureAddr] using hu, hr⟩
      · cases h
    · cases h

theorem aFieldAddr_ok {s : TypeId} {p : AV} {f : Nat} {pv : Value} (h : aFieldAddr P s p f = some (c, x)) (hc : c) (hp : Rel w A p pv) :
    ∃ u, (Instr.fieldAt s pv f).run P w = .ok u w ∧ Rel w A x u := by
  unfold aFieldAddr at h
  split at h
  · rename_i fs _ _ _ hti
    obtain ⟨d, inf, z, hd, hinf, hz, e⟩ := tinfo_inv hti
    simp only [TI.mk.injEq] at e
    obtain ⟨e1, -, -, -⟩ := e
    obtain ⟨fa, rfl, rfl⟩ := tk_struct e1.symm
    split at h
    · rename_i off ft hf
      simp only [List.getElem?_map, Array.getElem?_toList, Option.map_eq_some_iff] at hf
      obtain ⟨fd, hfd, hf2⟩ := hf
      cases hf2
      split at h
      · rename_i fi hfi
        obtain ⟨d2, inf2, z2, hd2, hinf2, hz2, rfl⟩ := tinfo_inv hfi
        have run : ∀ (b o : Nat), inf2.size ≠ 0 → (Instr.fieldAt s (.pointer (some ⟨b, o, none⟩)) f).run P w = .ok (.pointer (some ⟨b, o + fd.offset, none⟩)) w := fun b o hs => by
          simp [Instr.fieldAt, run_underlying hd, hfd, Instr.sureAddr, fieldPlace, run_sizeOf_i hinf2, hs, Addr.add_lit]
        split at h
        · rename_i k xs i j
          cases h
          obtain ⟨b, off, rfl, R, mk⟩ := hp.inv_rp
          exact ⟨_, run _ _ hc, by have := mk i (j + fd.offset); rwa [show off + (i * k + (j + fd.offset)) = off + (i * k + j) + fd.offset by omega] at this⟩
        · rename_i b k i j
          cases h
          obtain rfl := hp.inv_lp
          exact ⟨_, run _ _ hc, by have := Rel.lp (w := w) (A := A) b k i (j + fd.offset); rwa [show i * k + (j + fd.offset) = i * k + j + fd.offset by omega] at this⟩
        · cases h
      · cases h
    · cases h
  · cases h

theorem aIndexAddr_ok {t : TypeId} {p ix : AV} {pv iv : Value} (h : aIndexAddr P t p ix = some (c, x)) (hc : c) (hp : Rel w A p pv) (hi : Rel w A ix iv) :
    ∃ u, (Instr.indexAt t pv iv).run P w = .ok u w ∧ Rel w A x u := by
  unfold aIndexAddr at h
  split at h
  · rename_i e _ _ _ kd n hti
    obtain ⟨d, inf, z, hd, hinf, hz, e0⟩ := tinfo_inv hti
    simp only [TI.mk.injEq] at e0
    obtain ⟨e1, -, -, -⟩ := e0
    obtain rfl := tk_slice e1.symm
    obtain rfl := hi.inv_v
    split at h
    · rename_i ei hei
      obtain ⟨d2, inf2, z2, hd2, hinf2, hz2, rfl⟩ := tinfo_inv hei
      split at h
      · rename_i k xs
        cases h
        obtain ⟨rfl, h0, h1⟩ := hc
        cases hp with
        | sl0 _ a cap _ => simp at h1; omega
        | sl _ _ b off cap cc hA hl hcap hk hw hh =>
          refine ⟨.pointer (some ⟨b, off + (n.toNat * inf2.size + 0), none⟩), ?_, .rp _ _ _ _ b off cc hA hk hw hh⟩
          simp [Instr.indexAt, asIntOf, run_underlying hd, h0, h1, run_sizeOf_i hinf2, Addr.add_lit]
      · rename_i b k off len cap
        cases h
        obtain ⟨rfl, h0, h1⟩ := hc
        obtain ⟨o, rfl, hl, hcap, ho⟩ := hp.inv_ls
        have ho : o = off * inf2.size := by
          rcases ho with ho | ho
          · exact ho
          · omega
        subst ho
        refine ⟨.pointer (some ⟨b, (off + n.toNat) * inf2.size + 0, none⟩), ?_, .lp _ _ _ _⟩
        simp [Instr.indexAt, asIntOf, run_underlying hd, h0, h1, run_sizeOf_i hinf2, Addr.add_lit, Nat.add_mul]
      · cases h
    · cases h
  · rename_i m e _ _ _ kd n hti
    obtain ⟨d, inf, z, hd, hinf, hz, e0⟩ := tinfo_inv hti
    simp only [TI.mk.injEq] at e0
    obtain ⟨e1, -, -, -⟩ := e0
    obtain rfl := tk_arr e1.symm
    obtain rfl := hi.inv_v
    split at h
    · rename_i ei hei
      obtain ⟨d2, inf2, z2, hd2, hinf2, hz2, rfl⟩ := tinfo_inv hei
      have run : ∀ (b o : Nat), 0 ≤ n → n < m → (Instr.indexAt t (.pointer (some ⟨b, o, none⟩)) (.int kd n)).run P w = .ok (.pointer (some ⟨b, o + n.toNat * inf2.size, none⟩)) w := fun b o h0 h1 => by
        simp [Instr.indexAt, asIntOf, run_underlying hd, h0, h1, run_sizeOf_i hinf2, Addr.add_lit, Instr.sureAddr]
      split at h
      · rename_i k xs i j
        cases h
        obtain ⟨b, off, rfl, R, mk⟩ := hp.inv_rp
        refine ⟨_, run _ _ hc.1 hc.2, ?_⟩
        dsimp only
        split
        · rename_i hk
          obtain ⟨rfl, rfl⟩ := hk
          have := mk (i + n.toNat) 0
          rwa [show off + ((i + n.toNat) * inf2.size + 0) = off + (i * inf2.size + 0) + n.toNat * inf2.size by rw [Nat.add_mul]; omega] at this
        · have := mk i (j + n.toNat * inf2.size)
          rwa [show off + (i * k + (j + n.toNat * inf2.size)) = off + (i * k + j) + n.toNat * inf2.size by omega] at this
      · rename_i b k i j
        cases h
        obtain rfl := hp.inv_lp
        refine ⟨_, run _ _ hc.1 hc.2, ?_⟩
        dsimp only
        split
        · rename_i hk
          obtain ⟨rfl, rfl⟩ := hk
          have := Rel.lp (w := w) (A := A) b inf2.size (i + n.toNat) 0
          rwa [show (i + n.toNat) * inf2.size + 0 = i * inf2.size + 0 + n.toNat * inf2.size by rw [Nat.add_mul]; omega] at this
        · have := Rel.lp (w := w) (A := A) b k i (j + n.toNat * inf2.size)
          rwa [show i * k + (j + n.toNat * inf2.size) = i * k + j + n.toNat * inf2.size by omega] at this
      · cases h
    · cases h
  · cases h

theorem tinfo_slice {t : TypeId} {e : TypeId} {s b : Nat} {z : AV} (h : tinfo P t = some ⟨.slice e, s, b, z⟩) : P.underlying t = some (.slice e) := by
  obtain ⟨d, inf, z, hd, hinf, hz, e0⟩ := tinfo_inv h
  simp only [TI.mk.injEq] at e0
  rw [hd, tk_slice e0.1.symm]
theorem tinfo_arr {t : TypeId} {e n : Nat} {s b : Nat} {z : AV} (h : tinfo P t = some ⟨.arr n e, s, b, z⟩) : P.underlying t = some (.array n e) := by
  obtain ⟨d, inf, z, hd, hinf, hz, e0⟩ := tinfo_inv h
  simp only [TI.mk.injEq] at e0
  rw [hd, tk_arr e0.1.symm]
theorem tinfo_str {t : TypeId} {s b : Nat} {z : AV} (h : tinfo P t = some ⟨.str, s, b, z⟩) : P.underlying t = some .string := by
  obtain ⟨d, inf, z, hd, hinf, hz, e0⟩ := tinfo_inv h
  simp only [TI.mk.injEq] at e0
  rw [hd, tk_str e0.1.symm]
theorem tinfo_bool {t : TypeId} {s b : Nat} {z : AV} (h : tinfo P t = some ⟨.bool, s, b, z⟩) : P.underlying t = some .bool := by
  obtain ⟨d, inf, z, hd, hinf, hz, e0⟩ := tinfo_inv h
  simp only [TI.mk.injEq] at e0
  rw [hd, tk_bool e0.1.symm]
theorem tinfo_int {t : TypeId} {k : IntKind} {s b : Nat} {z : AV} (h : tinfo P t = some ⟨.int k, s, b, z⟩) : P.underlying t = some (.int k) := by
  obtain ⟨d, inf, z, hd, hinf, hz, e0⟩ := tinfo_inv h
  simp only [TI.mk.injEq] at e0
  rw [hd, tk_int e0.1.symm]
theorem tinfo_ptr {t : TypeId} {e : TypeId} {s b : Nat} {z : AV} (h : tinfo P t = some ⟨.ptr e, s, b, z⟩) : P.underlying t = some (.pointer e) := by
  obtain ⟨d, inf, z, hd, hinf, hz, e0⟩ := tinfo_inv h
  simp only [TI.mk.injEq] at e0
  rw [hd, tk_ptr e0.1.symm]
theorem tinfo_map {t : TypeId} {k e : TypeId} {s b : Nat} {z : AV} (h : tinfo P t = some ⟨.map k e, s, b, z⟩) : P.underlying t = some (.map k e) := by
  obtain ⟨d, inf, z, hd, hinf, hz, e0⟩ := tinfo_inv h
  simp only [TI.mk.injEq] at e0
  rw [hd, tk_map e0.1.symm]
theorem tinfo_struct {t : TypeId} {fs : List (Nat × TypeId)} {s b : Nat} {z : AV} (h : tinfo P t = some ⟨.struct fs, s, b, z⟩) : ∃ fa, P.underlying t = some (.struct fa) ∧ fs = fa.toList.map fun f => (f.offset, f.type) := by
  obtain ⟨d, inf, z, hd, hinf, hz, e0⟩ := tinfo_inv h
  simp only [TI.mk.injEq] at e0
  obtain ⟨fa, rfl, h2⟩ := tk_struct e0.1.symm
  exact ⟨fa, hd, h2⟩

theorem run_part_agg {t : TypeId} {ti : TI} (hti : tinfo P t = some ti) (ha : ti.agg = true) (us : Array Value) (off : Nat) : (part t us off).run P w = .ok (.agg (us.extract off (off + ti.size))) w := by
  obtain ⟨d, inf, z, hd, hinf, hz, rfl⟩ := tinfo_inv hti
  rw [agg_tk] at ha
  simp [part, run_isAgg_i hd, ha, run_sizeOf_i hinf]
theorem run_part_one {t : TypeId} {ti : TI} (hti : tinfo P t = some ti) (ha : ti.agg = false) (us : Array Value) (off : Nat) (u : Value) (hu : us[off]? = some u) : (part t us off).run P w = .ok u w := by
  obtain ⟨d, inf, z, hd, hinf, hz, rfl⟩ := tinfo_inv hti
  rw [agg_tk] at ha
  simp [part, run_isAgg_i hd, ha, hu]

theorem aField_ok {t : TypeId} {y : AV} {f : Nat} {yv : Value} (h : aField P t y f = some (c, x)) (hc : c) (hy : Rel w A y yv) : ∃ u, (Instr.field t yv f).run P w = .ok u w ∧ Rel w A x u := by
  unfold aField at h
  split at h
  · rename_i fs _ _ _ cs hti
    obtain ⟨fa, hd, rfl⟩ := tinfo_struct hti
    split at h
    · rename_i off ft hf
      simp only [List.getElem?_map, Array.getElem?_toList, Option.map_eq_some_iff] at hf
      obtain ⟨fd, hfd, hf2⟩ := hf
      cases hf2
      split at h
      · rename_i fi hfi
        cases hy with
        | agg _ us hn hh =>
        split at h
        · rename_i hag
          cases h
          refine ⟨.agg (us.extract fd.offset (fd.offset + fi.size)), by simp [Instr.field, run_underlying hd, hfd, asAgg, run_part_agg hfi hag], .agg _ _ (by simp; omega) ?_⟩
          intro i cc u hi hu
          rw [List.getElem?_take] at hi
          split at hi
          · rw [List.getElem?_drop] at hi
            rw [Array.getElem?_extract] at hu
            split at hu
            · exact hh _ _ _ hi hu
            · cases hu
          · cases hi
        · rename_i hag
          cases h
          have hlt : fd.offset < us.size := by omega
          refine ⟨us[fd.offset], by simp [Instr.field, run_underlying hd, hfd, asAgg, run_part_one hfi (by simpa using hag) us _ _ (Array.getElem?_eq_getElem hlt)], ?_⟩
          exact hh _ _ _ (getD_get hc) (Array.getElem?_eq_getElem hlt)
      · cases h
    · cases h
  · cases h

theorem aIndex_ok {t : TypeId} {y ix : AV} {yv iv : Value} (h : aIndex P t y ix = some (c, x)) (hc : c) (hy : Rel w A y yv) (hi : Rel w A ix iv) : ∃ u, (Instr.index t yv iv).run P w = .ok u w ∧ Rel w A x u := by
  unfold aIndex at h
  split at h
  · rename_i s kd n hti
    cases h
    obtain rfl := hi.inv_v
    obtain rfl := hy.inv_v
    obtain ⟨h0, h1⟩ := hc
    refine ⟨_, ?_, .v _⟩
    have hlt : n.toNat < s.size := by omega
    have hget : s[n.toNat]? = some (s.get! n.toNat) := by
      rw [getElem?_pos s n.toNat hlt]
      obtain ⟨d⟩ := s
      show some d[n.toNat] = some (d[n.toNat]!)
      rw [getElem!_pos d n.toNat hlt]
    simp [Instr.index, asIntOf, run_underlying (tinfo_str hti), h0, hget]
  · rename_i m e _ _ _ cs kd n hti
    obtain rfl := hi.inv_v
    split at h
    · rename_i ei hei
      cases h
      obtain ⟨h1, h2, h3, h4⟩ := hc
      cases hy with
      | agg _ us hn hh =>
      have hlt : n.toNat * ei.size < us.size := by omega
      refine ⟨us[n.toNat * ei.size], ?_, hh _ _ _ (getD_get h4) (Array.getElem?_eq_getElem hlt)⟩
      obtain ⟨d2, inf2, z2, hd2, hinf2, hz2, e2⟩ := tinfo_inv hei
      have hs : inf2.size = ei.size := by rw [e2]
      simp [Instr.index, asIntOf, run_underlying (tinfo_arr hti), h2, h3, run_sizeOf_i hinf2, hs, run_part_one hei h1 us _ _ (Array.getElem?_eq_getElem hlt)]
    · cases h
  · cases h

theorem aLen_ok {t : TypeId} {y : AV} {yv : Value} {ty : TypeId} (h : aLen P L t y = some (c, x)) (hL : LRel w A L) (hy : Rel w A y yv) : ∃ u, (Builtin.len_ #[t] ty #[yv]).run P w = .ok u w ∧ Rel w A x u := by
  unfold aLen at h
  split at h
  · rename_i hti
    have hd := tinfo_slice hti
    split at h <;> cases h
    · cases hy with
      | sl0 => exact ⟨_, by simp [Builtin.len_, run_underlying hd, goInt], .v _⟩
      | sl => exact ⟨_, by simp [Builtin.len_, run_underlying hd, goInt], .v _⟩
    · obtain ⟨o, rfl, _⟩ := hy.inv_ls
      exact ⟨_, by simp [Builtin.len_, run_underlying hd, goInt], .v _⟩
    · obtain rfl := hy.inv_v
      exact ⟨_, by simp [Builtin.len_, run_underlying hd, goInt], .v _⟩
  · rename_i hti
    have hd := tinfo_str hti
    split at h <;> cases h
    obtain rfl := hy.inv_v
    exact ⟨_, by simp [Builtin.len_, run_underlying hd, goInt], .v _⟩
  · rename_i hti
    have hd := tinfo_arr hti
    cases h
    exact ⟨_, by simp [Builtin.len_, run_underlying hd, goInt], .v _⟩
  · rename_i hti
    have hd := tinfo_ptr hti
    split at h
    · rename_i hti2
      have hd2 := tinfo_arr hti2
      cases h
      exact ⟨_, by simp [Builtin.len_, run_underlying hd, run_underlying hd2, goInt], .v _⟩
    · cases h
  · rename_i hti
    have hd := tinfo_map hti
    split at h
    · cases h
      cases hy with
      | rm _ _ b es clock hA hw hk hv hh =>
        refine ⟨.int .i64 es.size, by simp [Builtin.len_, run_underlying hd, goInt, getObj, Sem.run, hw], ?_⟩
        rw [← hk]; simp; exact .v _
    · split at h
      · rename_i hlk
        cases h
        obtain ⟨es, clock, hw, hk, _⟩ := hL.lk hlk
        cases hy with
        | lm b =>
        refine ⟨.int .i64 es.size, by simp [Builtin.len_, run_underlying hd, goInt, getObj, Sem.run, hw], ?_⟩
        rw [← hk]; simp; exact .v _
      · cases h
    · cases h
      obtain rfl := hy.inv_v
      exact ⟨_, by simp [Builtin.len_, run_underlying hd, goInt], .v _⟩
    · cases h
  · cases h

theorem aUn_ok {op : UnOp} {y : AV} {yv : Value} (h : aUn op y = some (c, x)) (hc : c) (hy : Rel w A y yv) : ∃ u, (Op.unary op yv).run P w = .ok u w ∧ Rel w A x u := by
  unfold aUn at h
  split at h <;> cases h <;> obtain rfl := hy.inv_v
  · exact ⟨_, by simp [Op.unary], .v _⟩
  · refine ⟨_, by simp [Op.unary, Op.intArith]; rfl, ?_⟩
    rename_i n
    unfold I64 at hc
    rw [show IntKind.i64.wrap (-n) = -n from IntWalk.i64_in _ (by omega)]
    exact .v _
theorem aConv_ok {s d : TypeId} {y : AV} {yv : Value} (h : aConv P s d y = some (c, x)) (hy : Rel w A y yv) : ∃ u, (convert s d yv).run P w = .ok u w ∧ Rel w A x u := by
  unfold aConv at h
  split at h
  · rename_i ti k _ _ _ kd n h1 h2
    cases h
    obtain rfl := hy.inv_v
    obtain ⟨d0, inf, z, hd, hinf, hz, rfl⟩ := tinfo_inv h1
    exact ⟨_, by simp [convert, run_underlying hd, run_underlying (tinfo_int h2), Conv.intToInt], .v _⟩
  · cases h
theorem aMin_ok {y z : AV} {yv zv : Value} {as : Array TypeId} {ty : TypeId} (h : aMin y z = some (c, x)) (hc : c) (hy : Rel w A y yv) (hz : Rel w A z zv) : ∃ u, (Builtin.min_ as ty #[yv, zv]).run P w = .ok u w ∧ Rel w A x u := by
  unfold aMin at h
  split at h <;> cases h
  obtain rfl := hy.inv_v; obtain rfl := hz.inv_v
  exact ⟨_, by simp [Builtin.min_, Builtin.min2], .v _⟩
theorem aMax_ok {y z : AV} {yv zv : Value} {as : Array TypeId} {ty : TypeId} (h : aMax y z = some (c, x)) (hc : c) (hy : Rel w A y yv) (hz : Rel w A z zv) : ∃ u, (Builtin.max_ as ty #[yv, zv]).run P w = .ok u w ∧ Rel w A x u := by
  unfold aMax at h
  split at h <;> cases h
  obtain rfl := hy.inv_v; obtain rfl := hz.inv_v
  exact ⟨_, by simp [Builtin.max_, Builtin.max2], .v _⟩
theorem aExtract_ok {y : AV} {i : Nat} {yv : Value} (h : aExtract y i = some (c, x)) (hc : c) (hy : Rel w A y yv) : ∃ u, (Instr.extract yv i).run P w = .ok u w ∧ Rel w A x u := by
  unfold aExtract at h
  split at h <;> cases h
  cases hy with
  | tup cs us hn hh =>
    have hlt : i < us.size := by omega
    exact ⟨us[i], by simp [Instr.extract, hlt], hh _ _ _ (getD_get hc) (Array.getElem?_eq_getElem hlt)⟩

theorem wrap_i64 {z : Int} (h : I64 z) : IntKind.i64.wrap z = z := IntWalk.i64_in _ (by unfold I64 at h; omega)

theorem eqGuard_int (op : BinOp) (t : TypeId) (ox oy : Operand) (k k' : IntKind) (a b : Int) : (eqGuard op t ox oy (.int k a) (.int k' b)).run P w = .ok () w := by
  unfold eqGuard; split <;> rfl
theorem eqGuard_bool (op : BinOp) (t : TypeId) (ox oy : Operand) (a b : Bool) : (eqGuard op t ox oy (.bool a) (.bool b)).run P w = .ok () w := by
  unfold eqGuard; split <;> rfl
theorem eqGuard_str (op : BinOp) (t : TypeId) (ox oy : Operand) (a b : ByteArray) : (eqGuard op t ox oy (.string a) (.string b)).run P w = .ok () w := by
  unfold eqGuard; split <;> rfl
theorem eqGuard_slice (op : BinOp) (t : TypeId) (ox oy : Operand) (a b : Option Addr) (n m n' m' : Nat) : (eqGuard op t ox oy (.slice a n m) (.slice b n' m')).run P w = .ok () w := by
  unfold eqGuard; split <;> rfl

theorem aBin_int (op : BinOp) (t : TypeId) (ox oy : Operand) {k k' : IntKind} {a b : Int} (h : aBin P op t (.v (.int k a)) (.v (.int k' b)) = some (c, x)) (hc : c) :
    ∃ u, (do eqGuard op t ox oy (.int k a) (.int k' b); binOp op t (.int k a) (.int k' b) : Sem Value).run P w = .ok u w ∧ Rel w A x u := by
  simp only [Sem.run_bind, eqGuard_int, Result.andThen_ok]
  cases op <;> simp only [aBin] at h
  case add =>
    split at h <;> cases h
    · rename_i e; subst e; obtain ⟨rfl, hb⟩ := hc
      exact ⟨_, by simp [binOp, Op.intArith, wrap_i64 hb], .v _⟩
    · obtain rfl := hc; exact ⟨_, by simp [binOp, Op.intArith], .v _⟩
  case sub =>
    split at h <;> cases h
    · rename_i e; subst e; obtain ⟨rfl, hb⟩ := hc
      exact ⟨_, by simp [binOp, Op.intArith, wrap_i64 hb], .v _⟩
    · obtain rfl := hc; exact ⟨_, by simp [binOp, Op.intArith], .v _⟩
  case mul =>
    split at h <;> cases h
    · rename_i e; subst e; obtain ⟨rfl, hb⟩ := hc
      exact ⟨_, by simp [binOp, Op.intArith, wrap_i64 hb], .v _⟩
    · obtain rfl := hc; exact ⟨_, by simp [binOp, Op.intArith], .v _⟩
  case quo => cases h; obtain ⟨rfl, hb⟩ := hc; exact ⟨_, by simp [binOp, Op.intDiv, hb], .v _⟩
  case rem => cases h; obtain ⟨rfl, hb⟩ := hc; exact ⟨_, by simp [binOp, Op.intDiv, hb], .v _⟩
  case eql => cases h; obtain rfl := hc; exact ⟨.bool (decide (a = b)), by simp [binOp, Op.intCmp]; by_cases h : a = b <;> simp [h], .v _⟩
  case neq => cases h; obtain rfl := hc; exact ⟨.bool (!decide (a = b)), by simp [binOp, Op.intCmp]; by_cases h : a = b <;> simp [h], .v _⟩
  case lss => cases h; obtain rfl := hc; exact ⟨_, by simp [binOp, Op.intCmp], .v _⟩
  case leq => cases h; obtain rfl := hc; exact ⟨_, by simp [binOp, Op.intCmp], .v _⟩
  case gtr => cases h; obtain rfl := hc; exact ⟨_, by simp [binOp, Op.intCmp], .v _⟩
  case geq => cases h; obtain rfl := hc; exact ⟨_, by simp [binOp, Op.intCmp], .v _⟩
  all_goals cases h

theorem equal_succ (t : TypeId) (a b : Value) : Op.equal t a b = Op.equalIn (9999 + 1) t a b := rfl
theorem equal_bool {t : TypeId} (hd : P.underlying t = some .bool) (a b : Bool) : (Op.equal t (.bool a) (.bool b)).run P w = .ok (a == b) w := by
  rw [equal_succ, Op.equalIn]
  simp only [Sem.run_bind, run_underlying hd, Result.andThen_ok, Sem.run_pure]
theorem aBin_bool (op : BinOp) (t : TypeId) (ox oy : Operand) {a b : Bool} (h : aBin P op t (.v (.bool a)) (.v (.bool b)) = some (c, x)) :
    ∃ u, (do eqGuard op t ox oy (.bool a) (.bool b); binOp op t (.bool a) (.bool b) : Sem Value).run P w = .ok u w ∧ Rel w A x u := by
  simp only [Sem.run_bind, eqGuard_bool, Result.andThen_ok]
  simp only [aBin] at h
  split at h
  · rename_i hti
    cases h
    refine ⟨.bool (decide (a = b)), ?_, .v _⟩
    simp only [binOp, Sem.run_bind, equal_bool (tinfo_bool hti), Result.andThen_ok, Sem.run_pure]
    cases a <;> cases b <;> rfl
  · rename_i hti
    cases h
    refine ⟨.bool (!decide (a = b)), ?_, .v _⟩
    simp only [binOp, Sem.run_bind, equal_bool (tinfo_bool hti), Result.andThen_ok, Sem.run_pure]
    cases a <;> cases b <;> rfl
  · cases h

theorem aBin_str (op : BinOp) (t : TypeId) (ox oy : Operand) {a b : ByteArray} (h : aBin P op t (.v (.string a)) (.v (.string b)) = some (c, x)) :
    ∃ u, (do eqGuard op t ox oy (.string a) (.string b); binOp op t (.string a) (.string b) : Sem Value).run P w = .ok u w ∧ Rel w A x u := by
  simp only [Sem.run_bind, eqGuard_str, Result.andThen_ok]
  cases op <;> simp only [aBin] at h <;> cases h
  all_goals exact ⟨_, by simp [binOp, Op.stringOp, seqB], .v _⟩

theorem equal_slice_nil {t e : TypeId} (hd : P.underlying t = some (.slice e)) (a : Option Addr) (n m : Nat) : (Op.equal t (.slice a n m) (.slice none 0 0)).run P w = .ok (a.isNone) w := by
  rw [equal_succ, Op.equalIn]
  cases a <;> simp only [Sem.run_bind, run_underlying hd, Result.andThen_ok, Sem.run_pure] <;> rfl

theorem aBin_nil (op : BinOp) (t : TypeId) (ox oy : Operand) {y : AV} {yv : Value} (hy : Rel w A y yv) (h : aBin P op t y (.v (.slice none 0 0)) = some (c, x)) (hc : c) :
    ∃ u, (do eqGuard op t ox oy yv (.slice none 0 0); binOp op t yv (.slice none 0 0) : Sem Value).run P w = .ok u w ∧ Rel w A x u := by
  have key : ∀ (a : Option Addr) (n m : Nat) (e : TypeId), P.underlying t = some (.slice e) → ((do eqGuard .eql t ox oy (.slice a n m) (.slice none 0 0); binOp .eql t (.slice a n m) (.slice none 0 0) : Sem Value).run P w = .ok (.bool a.isNone) w ∧
      (do eqGuard .neq t ox oy (.slice a n m) (.slice none 0 0); binOp .neq t (.slice a n m) (.slice none 0 0) : Sem Value).run P w = .ok (.bool (!a.isNone)) w) := fun a n m e hd => by
    simp [Sem.run_bind, eqGuard_slice, binOp, equal_slice_nil hd]
  have main : ∀ o, (match tinfo P t with
    | some ⟨.slice _, _, _, _⟩ => match op, y with
      | .eql, .v (.slice none 0 0) => some (True, ab true)
      | .neq, .v (.slice none 0 0) => some (True, ab false)
      | .eql, .ls _ _ _ _ _ => some (True, ab false)
      | .neq, .ls _ _ _ _ _ => some (True, ab true)
      | _, _ => none
    | _ => none) = some o → o = (c, x) → ∃ u, (do eqGuard op t ox oy yv (.slice none 0 0); binOp op t yv (.slice none 0 0) : Sem Value).run P w = .ok u w ∧ Rel w A x u := by
    intro o ho e
    subst e
    split at ho
    · rename_i e _ _ _ hti
      have hd := tinfo_slice hti
      split at ho <;> cases ho
      · obtain rfl := hy.inv_v; exact ⟨_, (key _ _ _ e hd).1, .v _⟩
      · obtain rfl := hy.inv_v; exact ⟨_, (key _ _ _ e hd).2, .v _⟩
      · obtain ⟨o, rfl, _⟩ := hy.inv_ls; exact ⟨_, (key _ _ _ e hd).1, .v _⟩
      · obtain ⟨o, rfl, _⟩ := hy.inv_ls; exact ⟨_, (key _ _ _ e hd).2, .v _⟩
    · cases ho
  cases y with
  | v z => cases z <;> exact main _ h rfl
  | _ => exact main _ h rfl

theorem aBin_ok (op : BinOp) (t : TypeId) (ox oy : Operand) {y z : AV} {yv zv : Value} (h : aBin P op t y z = some (c, x)) (hc : c) (hy : Rel w A y yv) (hz : Rel w A z zv) :
    ∃ u, (do eqGuard op t ox oy yv zv; binOp op t yv zv : Sem Value).run P w = .ok u w ∧ Rel w A x u := by
  by_cases hz' : z = .v (.slice none 0 0)
  · subst hz'
    obtain rfl := hz.inv_v
    exact aBin_nil op t ox oy hy h hc
  · have h0 := h
    unfold aBin at h
    split at h
    · obtain rfl := hy.inv_v; obtain rfl := hz.inv_v; exact aBin_int op t ox oy h0 hc
    · obtain rfl := hy.inv_v; obtain rfl := hz.inv_v; exact aBin_bool op t ox oy h0
    · obtain rfl := hy.inv_v; obtain rfl := hz.inv_v; exact aBin_str op t ox oy h0
    · exact absurd rfl hz'
    · cases h

theorem aNil_ok {y : AV} {yv : Value} (h : aNil y = some (c, x)) (hy : Rel w A y yv) :
    ∃ u, (match yv with
    | .pointer none | .nilIface | .nilFunc => (runtimePanic .nilDeref : Sem Next)
    | .func (.method name) first captured =>
      match (first[0]? : Option Value) with
      | some .nilIface => runtimePanic .nilDeref
      | some (.iface t w) => do
        if (← nilAhead ((← program).types.size + Made.depth) t w name) != some false then
          unsupported (.noEntry "op/nilCheck.the method's receiver behind this interface value is a nil pointer, or cannot be seen to be none, and the arguments act or may panic (ledger 612)")
        pure (.value (.func (.method name) first captured))
      | _ => pure (.value (.func (.method name) first captured))
    | x => pure (.value x)).run P w = .ok (.value u) w ∧ Rel w A x u := by
  unfold aNil at h
  split at h <;> cases h
  · obtain ⟨b, off, rfl, _, _⟩ := hy.inv_rp; exact ⟨_, rfl, hy⟩
  · obtain rfl := hy.inv_lp; exact ⟨_, rfl, hy⟩
  · cases hy with
    | clo f cs us hn hh => exact ⟨_, rfl, .clo _ _ us hn hh⟩
  · obtain rfl := hy.inv_v; exact ⟨_, rfl, .v _⟩
  · obtain rfl := hy.inv_v; exact ⟨_, rfl, .v _⟩

/-- A bound of a slice, as it stands in the text. -/
def ORel (w : World) (A : Foot) (x : Option AV) (u : Option Value) : Prop :=
  match x, u with
  | none, none => True
  | some x, some u => Rel w A x u
  | _, _ => False
theorem bnd_ok {d : Int} {x : Option AV} {u : Option Value} {n : Int} (h : bnd d x = some n) (hx : ORel w A x u) : (u = none ∧ n = d) ∨ ∃ k, u = some (.int k n) := by
  unfold bnd at h
  split at h
  · cases h
    cases u with
    | none => exact .inl ⟨rfl, rfl⟩
    | some u => exact hx.elim
  · cases h
    cases u with
    | none => exact hx.elim
    | some u => obtain rfl := Rel.inv_v hx; exact .inr ⟨_, rfl⟩
  · cases h
theorem run_sliceBounds {isS : Bool} {len cap : Nat} {lo hi : Option AV} {lov hiv : Option Value} {l h : Int} (hl : bnd 0 lo = some l) (hh : bnd len hi = some h) (rl : ORel w A lo lov) (rh : ORel w A hi hiv)
    (h0 : 0 ≤ l) (h1 : l ≤ h) (h2 : h ≤ cap) (_h3 : len ≤ cap) : (Instr.sliceBounds isS len cap lov hiv none).run P w = .ok (l.toNat, h.toNat, cap) w := by
  have e2 : 0 ≤ h := by omega
  rcases bnd_ok hl rl with ⟨rfl, rfl⟩ | ⟨k, rfl⟩ <;> rcases bnd_ok hh rh with ⟨rfl, rfl⟩ | ⟨k', rfl⟩
  · simp [Instr.sliceBounds]
  · simp [Instr.sliceBounds, Instr.sliceBound, asIntOf, e2, h2]
  · simp [Instr.sliceBounds, Instr.sliceBound, asIntOf, h0, h1]
  · have e3 : ¬ max h 0 < l := by omega
    simp [Instr.sliceBounds, Instr.sliceBound, asIntOf, e2, h2, h0, e3]

theorem aSlice_ok {t : TypeId} {y : AV} {yv : Value} {lo hi : Option AV} {lov hiv : Option Value} (h : aSlice P t y lo hi = some (c, x)) (hc : c) (hy : Rel w A y yv) (rl : ORel w A lo lov) (rh : ORel w A hi hiv) :
    ∃ u, (Instr.sliceAt t yv lov hiv none).run P w = .ok u w ∧ Rel w A x u := by
  unfold aSlice at h
  split at h
  · rename_i e _ _ _ hti
    have hd := tinfo_slice hti
    split at h
    · rename_i ei hei
      obtain ⟨d2, inf2, z2, hd2, hinf2, hz2, rfl⟩ := tinfo_inv hei
      have go : ∀ (a : Option Addr) (len cap : Nat) (l h : Int), (Instr.sliceBounds true len cap lov hiv none).run P w = .ok (l.toNat, h.toNat, cap) w →
          (Instr.sliceAt t (.slice a len cap) lov hiv none).run P w = .ok (.slice (if cap = l.toNat then a else a.map (·.add (l.toNat * inf2.size))) (h.toNat - l.toNat) (cap - l.toNat)) w := fun a len cap l h hb => by
        simp [Instr.sliceAt, Instr.slice, run_underlying hd, hb, run_sizeOf_i hinf2]
      split at h
      · rename_i k xs
        split at h
        · rename_i l h' hl hh
          cases h
          obtain ⟨rfl, h0, h1, h2⟩ := hc
          have hlen : ((xs.take h'.toNat).drop l.toNat).length = h'.toNat - l.toNat := by simp; omega
          cases hy with
          | sl0 _ a cap hcap =>
            have hl0 : l = 0 := by simp at h2; omega
            have hh0 : h' = 0 := by simp at h2; omega
            subst hl0; subst hh0
            refine ⟨_, go _ _ _ _ _ (run_sliceBounds hl hh rl rh (by omega) (by omega) (by simp) (by simp)), ?_⟩
            simp only [List.take_nil, List.drop_nil]
            exact .sl0 _ _ _ (by simp; omega)
          | sl _ _ b off cap cc hA hle hcap hk hw hh' =>
            refine ⟨_, go _ _ _ _ _ (run_sliceBounds hl hh rl rh h0 h1 (by omega) hle), ?_⟩
            by_cases he : h'.toNat - l.toNat = 0
            · rw [List.eq_nil_of_length_eq_zero (hlen.trans he), he]
              exact .sl0 _ _ _ (by omega)
            · have hne : cap ≠ l.toNat := by omega
              rw [if_neg hne]
              simp only [Option.map_some, Addr.add_lit]
              have main := Rel.sl (w := w) (A := A) inf2.size ((xs.take h'.toNat).drop l.toNat) b (off + l.toNat * inf2.size) (cap - l.toNat) (fun i => cc (l.toNat * inf2.size + i)) hA (by rw [hlen]; omega) (by omega)
                (fun x hx => hk x (List.mem_of_mem_take (List.mem_of_mem_drop hx)))
                (fun i hi => by
                  rw [Nat.add_assoc]
                  refine hw _ ?_
                  rw [hlen] at hi
                  have : (l.toNat + (h'.toNat - l.toNat)) * inf2.size ≤ xs.length * inf2.size := Nat.mul_le_mul_right _ (by omega)
                  rw [Nat.add_mul] at this
                  dsimp only
                  omega)
                (fun i x j y hx hy => by
                  have hx' : xs[l.toNat + i]? = some x := by
                    rw [List.getElem?_drop, List.getElem?_take] at hx
                    split at hx
                    · exact hx
                    · cases hx
                  have := hh' (l.toNat + i) x j y hx' hy
                  rwa [Nat.add_mul, Nat.add_assoc] at this)
              rwa [hlen] at main
        · cases h
      · rename_i b k off len cap
        split at h
        · rename_i l h' hl hh
          cases h
          obtain ⟨rfl, h0, h1, h2⟩ := hc
          obtain ⟨o, rfl, hle, hcap, ho⟩ := hy.inv_ls
          refine ⟨_, go _ _ _ _ _ (run_sliceBounds hl hh rl rh h0 h1 h2 hle), ?_⟩
          by_cases he : cap = l.toNat
          · rw [if_pos he]
            exact .ls _ _ _ _ _ _ (by omega) (by omega) (.inr (by omega))
          · rw [if_neg he]
            simp only [Option.map_some, Addr.add_lit]
            refine .ls _ _ _ _ _ _ (by omega) (by omega) (.inl ?_)
            rcases ho with ho | ho
            · rw [ho, Nat.add_mul]
            · omega
        · cases h
      · split at h
        · rename_i l h' hl hh
          cases h
          obtain ⟨rfl, rfl⟩ := hc
          obtain rfl := hy.inv_v
          refine ⟨_, go _ _ _ _ _ (run_sliceBounds (len := 0) (cap := 0) hl (by simpa using hh) rl rh (by omega) (by omega) (by simp) (by simp)), .v _⟩
        · cases h
      · cases h
    · cases h
  · rename_i hti
    have hd := tinfo_str hti
    split at h
    · split at h
      · rename_i s _ _ l h' hl hh
        cases h
        obtain ⟨h0, h1, h2⟩ := hc
        obtain rfl := hy.inv_v
        exact ⟨_, by simp [Instr.sliceAt, Instr.slice, run_underlying hd, run_sliceBounds (isS := false) (P := P) hl hh rl rh h0 h1 h2 (Nat.le_refl _)], .v _⟩
      · cases h
    · cases h
  · cases h
end

end Go.AL
