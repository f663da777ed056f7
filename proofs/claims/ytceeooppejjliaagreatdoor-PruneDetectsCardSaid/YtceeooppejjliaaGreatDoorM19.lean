/- Texts of this claim's proof: AlBr3, WRt, WRt2, AlBr4. No condition. -/
import Derived.Test.YtceeooppejjliaaGreatDoorM18
import Derived.Test.YtceeooppejjliaaGreatDoorM4
import Derived.Test.YtceeooppejjliaaGreatDoorM8
import Derived.Lib.LaidTab
section
namespace Go.AL
open Go Go.RowKit Go.ChangeShapes Go.WideShapes Go.ChangeAt
def RdF {H : Type} (enc : TypeId × Value → H) (P : Program) (W : World) (N : Nat) (t : TypeId) (k : Nat) {α : Type} (E : α → AV) (ok : α → Prop) : Prop :=
 ∀ fuel cs x, fuel ≤ N → DataW.trod enc P W 0 (fun _ => true) true fuel t cs = some x → ∃ y, ok y ∧ elOk k (E y) ∧ cs.length = k ∧ ∀ (i : Nat) c u, (E y).cells[i]? = some c → cs[i]? = some u → Rel W (fun b => b < W.heap.size) c u
section
variable {H : Type} {enc : TypeId × Value → H} {P : Program} {W : World} {t : TypeId}
theorem Rd.bounded {α : Type} {k : Nat} {E : α → AV} {ok : α → Prop} (h : Rd enc P W t k E ok) (N : Nat) : RdF enc P W N t k E ok := fun fuel cs x _ hx => h fuel cs x hx
theorem RdF.all {α : Type} {k : Nat} {E : α → AV} {ok : α → Prop} (h : ∀ N, RdF enc P W N t k E ok) : Rd enc P W t k E ok := fun fuel cs x hx => h fuel fuel cs x (Nat.le_refl _) hx
theorem RdF.mono {α : Type} {k : Nat} {E : α → AV} {ok : α → Prop} {N M : Nat} (h : RdF enc P W N t k E ok) (hM : M ≤ N) : RdF enc P W M t k E ok := fun fuel cs x hf hx => h fuel cs x (by omega) hx
theorem RdF.zero {α : Type} {k : Nat} {E : α → AV} {ok : α → Prop} : RdF enc P W 0 t k E ok := fun fuel cs x hf hx => by
 obtain rfl : fuel = 0 := by omega
 simp [DataW.trod] at hx
theorem RdF.map {α β : Type} {k : Nat} {N : Nat} {E : α → AV} {E' : β → AV} {ok : α → Prop} {ok' : β → Prop} (f : α → β) (hE : ∀ y, E y = E' (f y)) (hok : ∀ y, ok y → ok' (f y)) (h : RdF enc P W N t k E ok) : RdF enc P W N t k E' ok' := by
 intro fuel cs x hN hx
 obtain ⟨y, k1, k2, k3, k4⟩ := h fuel cs x hN hx
 exact ⟨f y, hok y k1, by rw [← hE]; exact k2, k3, by rw [← hE]; exact k4⟩
theorem RdF.slice {N : Nat} {α : Type} {E : α → AV} {ok : α → Prop} {e : TypeId} {k : Nat} (ht : P.underlying t = some (.slice e)) (hk : P.cellsOf e = k) (h0 : 0 < k) (he : RdF enc P W N e k E ok) :
  RdF enc P W (N + 1) t 1 (fun l : List α => .sl k (l.map E)) (fun l => l.length ≤ maxLen ∧ ∀ y ∈ l, ok y) := by
 intro fuel cs x hN h
 rcases DataW.trod_slice ht h with ⟨rfl, _⟩ | ⟨a, len, cap, elems, rest, n, hfu, rfl, _, _, hl, hm, hlen, hel, _, _⟩
 ·refine ⟨[], ⟨by simp, by simp⟩, ⟨rfl, rfl⟩, rfl, fun i c u h1 h2 => ?_⟩
  cases i with
  | zero => cases h1; cases h2; exact .sl0 k none 0 (by simp)
  | succ i => cases h2
 ·rw [hk] at hel
  obtain ⟨l, hll, hli⟩ := ofFin (len := len) (Q := fun i y => ∃ cs : List Value, ok y ∧ elOk k (E y) ∧ cs.length = k ∧ (∀ m, m < k → W.cell? ((a.add (i * k)).add m) = cs[m]?) ∧ ∀ (m : Nat) c u, (E y).cells[m]? = some c → cs[m]? = some u → Rel W (fun b => b < W.heap.size) c u) fun i hi => by
   have h1 := hel i hi
   rw [List.getElem?_eq_getElem (by omega), Option.bind_eq_some_iff] at h1
   obtain ⟨cs, hc, ht⟩ := h1
   obtain ⟨y, k1, k2, k3, k4⟩ := he _ _ _ (by omega) ht
   exact ⟨y, cs, k1, k2, k3, (World.cells?_some hc).2.2, k4⟩
  refine ⟨l, ⟨by omega, fun y hy => ?_⟩, ⟨rfl, rfl⟩, rfl, fun i c u h1 h2 => ?_⟩
  ·obtain ⟨i, hi, rfl⟩ := List.getElem_of_mem hy
   obtain ⟨_, h, _⟩ := hli i (by omega); exact h
  ·cases i with
   | succ i => cases h2
   | zero =>
    cases h1; cases h2
    by_cases hz : len = 0
    ·subst hz
     rw [List.length_eq_zero_iff.1 hll]
     exact .sl0 k _ cap hm
    ·obtain ⟨b, off, spot⟩ := a
     obtain ⟨cs0, _, _, c3, c4, _⟩ := hli 0 (by omega)
     have hs : spot = none := by
      have := c4 0 h0
      have e0 : ∀ a : Addr, a.add 0 = a := fun _ => rfl
      rw [Nat.zero_mul, e0, e0, List.getElem?_eq_getElem (by omega)] at this
      cases spot with
      | none => rfl
      | some s =>
       exfalso
       unfold World.cell? at this
       split at this
       ·rw [if_pos (show (some s).isSome = true from rfl)] at this; cases this
       ·cases this
     subst hs
     have cell : ∀ (i : Nat) (hi : i < len) (m : Nat), m < k → ∃ u, W.cell? ⟨b, off + (i * k + m), none⟩ = some u ∧ ∀ c, (E (l[i]'(by omega))).cells[m]? = some c → Rel W (fun b => b < W.heap.size) c u := fun i hi m hm => by
      obtain ⟨cs, _, _, c3, c4, c5⟩ := hli i (by omega)
      have := c4 m hm
      rw [add_none, add_none, Nat.add_assoc, List.getElem?_eq_getElem (by omega)] at this
      exact ⟨_, this, fun c hc => c5 m c _ hc (List.getElem?_eq_getElem (by omega))⟩
     have hA : b < W.heap.size := by
      obtain ⟨u, hu, _⟩ := cell 0 (by omega) 0 h0
      unfold World.cell? at hu
      cases hb : W.heap[b]? with
      | none => simp [hb] at hu
      | some o => exact (Array.getElem?_eq_some_iff.1 hb).1
     have := Rel.sl (w := W) (A := fun b => b < W.heap.size) k (l.map E) b off cap (fun j => (W.cell? ⟨b, off + j, none⟩).getD undef) hA (by rw [List.length_map]; omega) hm
      (fun x hx => by
       obtain ⟨y, hy, rfl⟩ := List.mem_map.1 hx
       obtain ⟨i, hi, rfl⟩ := List.getElem_of_mem hy
       obtain ⟨cs, _, c2, _⟩ := hli i (by omega)
       exact c2)
      (fun j hj => by
       rw [List.length_map, hll] at hj
       have h1 : j / k < len := (Nat.div_lt_iff_lt_mul h0).2 hj
       obtain ⟨u, hu, _⟩ := cell (j / k) h1 (j % k) (Nat.mod_lt _ h0)
       have e : j / k * k + j % k = j := Nat.div_add_mod' j k
       rw [e] at hu
       rw [hu]; rfl)
      (fun i x j y hx hy => by
       rw [List.getElem?_map, Option.map_eq_some_iff] at hx
       obtain ⟨z, hz, rfl⟩ := hx
       obtain ⟨hi, rfl⟩ := List.getElem?_eq_some_iff.1 hz
       obtain ⟨cs, _, c2, _⟩ := hli i (by omega)
       have hj : j < k := by have := (List.getElem?_eq_some_iff.1 hy).1; have := c2.1; omega
       obtain ⟨u, hu, hr⟩ := cell i (by omega) j hj
       rw [hu]
       exact hr _ hy)
     rw [List.length_map, hll] at this
     exact this
def RdFL (enc : TypeId × Value → H) (P : Program) (W : World) (N : Nat) (ts : List TypeId) {α : Type} (E : α → List AV) (ok : α → Prop) : Prop :=
 ∀ (n : Nat) (cs : List Value) (xs : List (DataW H × List MemPlace)), n ≤ N → xs.length = ts.length → cs.length = ts.length →
  (∀ (i : Nat) t, ts[i]? = some t → DataW.trod enc P W 0 (fun _ => true) true n t ((cs.drop i).take 1) = xs[i]?) →
  ∃ y, ok y ∧ (E y).length = ts.length ∧ (E y).all one = true ∧ ∀ (i : Nat) c u, (E y)[i]? = some c → cs[i]? = some u → Rel W (fun b => b < W.heap.size) c u
theorem RdFL.nil {N : Nat} : RdFL enc P W N [] (fun _ : Unit => []) (fun _ => True) := by
 intro n cs xs _ _ _ _
 exact ⟨(), trivial, rfl, rfl, fun i c u h => by simp at h⟩
theorem RdFL.cons {N : Nat} {α β : Type} {E : α → AV} {ok : α → Prop} {ts : List TypeId} {F : β → List AV} {ok' : β → Prop} (h : RdF enc P W N t 1 E ok) (h1 : ∀ y, one (E y) = true ∧ (E y).cells = [E y]) (hs : RdFL enc P W N ts F ok') :
  RdFL enc P W N (t :: ts) (fun y : α × β => E y.1 :: F y.2) (fun y => ok y.1 ∧ ok' y.2) := by
 intro n cs xs hN hx hc hi
 match xs, cs, hx, hc with
 | x :: xs, u :: cs, hx, hc =>
  have h0 := hi 0 t rfl
  simp only [List.drop_zero, List.take_succ_cons, List.take_zero, List.getElem?_cons_zero] at h0
  obtain ⟨y, k1, _, _, k4⟩ := h _ _ _ hN h0
  obtain ⟨z, g1, g2, g3, g4⟩ := hs n cs xs hN (by simpa using hx) (by simpa using hc) fun i t' ht => by
   have := hi (i + 1) t' (by simpa using ht)
   simpa using this
  refine ⟨(y, z), ⟨k1, g1⟩, by simp [g2], by simp [g3, (h1 y).1], fun i c u' hcc hu => ?_⟩
  cases i with
  | zero => cases hcc; cases hu; exact k4 0 _ _ (by rw [(h1 y).2]; rfl) rfl
  | succ i => exact g4 i c u' (by simpa using hcc) (by simpa using hu)
theorem RdF.struct {N : Nat} {fs : Array Field} {α : Type} {ts : List TypeId} {F : α → List AV} {ok : α → Prop} (ht : P.underlying t = some (.struct fs)) (hts : fs.toList.map (·.type) = ts) (hof : fs.toList.map (·.offset) = List.range ts.length) (hk : P.cellsOf t = ts.length)
  (hc : (ts.all fun t => P.cellsOf t == 1) = true) (h : RdFL enc P W N ts F ok) : RdF enc P W (N + 1) t ts.length (fun y => .agg (F y)) ok := by
 intro fuel cs x hN hx
 obtain ⟨xs, n, hfu, _, hl, hlen, hf⟩ := DataW.trod_struct ht hx
 have hfl : fs.size = ts.length := by rw [← hts]; simp
 obtain ⟨y, k1, k2, k3, k4⟩ := h n cs xs (by omega) (by omega) (by omega) fun i t' ht' => by
  have hi : i < ts.length := (List.getElem?_eq_some_iff.1 ht').1
  have hg : fs[i]? = some fs[i] := Array.getElem?_eq_getElem (by omega)
  have e1 : (fs[i]).type = t' := by
   rw [← hts, List.getElem?_map, Array.getElem?_toList, hg] at ht'
   exact Option.some.inj ht'
  have e2 : (fs[i]).offset = i := by
   have : (fs.toList.map (·.offset))[i]? = some i := by rw [hof, List.getElem?_range hi]
   rw [List.getElem?_map, Array.getElem?_toList, hg] at this
   exact Option.some.inj this
  have := hf i _ hg
  have hct : P.cellsOf t' = 1 := by
   have := List.all_eq_true.1 hc _ (List.mem_of_getElem? ht')
   simpa using this
  rw [e1, e2, hct] at this
  exact this
 exact ⟨y, k1, ⟨k2, k3⟩, by omega, k4⟩
end
end Go.AL
end
section
namespace Go.AL
open Go Go.RowKit
set_option maxRecDepth 100000
section
variable {H : Type} {enc : TypeId × Value → H} {W : World}
theorem rdInts : Rd enc Proofs.Tryz.prog W 42 1 aInts (fun l => l.length ≤ maxLen) :=
 (Rd.slice Proofs.Tryz.underlying42 (by kernel_rfl : Program.cellsOf Proofs.Tryz.prog 3 = 1) (by decide) (Rd.int Proofs.Tryz.underlying3)).map id (fun _ => rfl) (fun _ h => h.1)
theorem rdAsg : Rd enc Proofs.Tryz.prog W 146 2 aAsg (fun _ => True) :=
 (Rd.struct (ts := [3, 3]) Proofs.Tryz.underlying146 rfl rfl (by kernel_rfl) (by kernel_rfl)
  (.cons (Rd.int Proofs.Tryz.underlying3) (fun _ => ⟨rfl, rfl⟩) (.cons (Rd.int Proofs.Tryz.underlying3) (fun _ => ⟨rfl, rfl⟩) .nil))).map (fun (y : Int × Int × Unit) => (y.1, y.2.1)) (fun _ => rfl) (fun _ _ => trivial)
theorem rdAsgs : Rd enc Proofs.Tryz.prog W 99 1 aAsgs (fun _ => True) :=
 (Rd.slice Proofs.Tryz.underlying99 (by kernel_rfl : Program.cellsOf Proofs.Tryz.prog 146 = 2) (by decide) rdAsg).map id (fun _ => rfl) (fun _ _ => trivial)
theorem rdVar : Rd enc Proofs.Tryz.prog W 143 2 aVar (fun _ => True) :=
 (Rd.struct (ts := [9, 3]) Proofs.Tryz.underlying143 rfl rfl (by kernel_rfl) (by kernel_rfl)
  (.cons (Rd.str Proofs.Tryz.underlying9) (fun _ => ⟨rfl, rfl⟩) (.cons (Rd.int Proofs.Tryz.underlying3) (fun _ => ⟨rfl, rfl⟩) .nil))).map (fun (y : ByteArray × Int × Unit) => (y.1, y.2.1)) (fun _ => rfl) (fun _ _ => trivial)
theorem rdVars : Rd enc Proofs.Tryz.prog W 72 1 aVars (fun _ => True) :=
 (Rd.slice Proofs.Tryz.underlying72 (by kernel_rfl : Program.cellsOf Proofs.Tryz.prog 143 = 2) (by decide) rdVar).map id (fun _ => rfl) (fun _ _ => trivial)
theorem rdEv : Rd enc Proofs.Tryz.prog W 101 5 aEv (fun _ => True) :=
 (Rd.struct (ts := [3, 3, 3, 3, 99]) Proofs.Tryz.underlying101 rfl rfl (by kernel_rfl) (by kernel_rfl)
  (.cons (Rd.int Proofs.Tryz.underlying3) (fun _ => ⟨rfl, rfl⟩) (.cons (Rd.int Proofs.Tryz.underlying3) (fun _ => ⟨rfl, rfl⟩) (.cons (Rd.int Proofs.Tryz.underlying3) (fun _ => ⟨rfl, rfl⟩)
   (.cons (Rd.int Proofs.Tryz.underlying3) (fun _ => ⟨rfl, rfl⟩) (.cons rdAsgs (fun _ => ⟨rfl, rfl⟩) .nil)))))).map (fun (y : Int × Int × Int × Int × List (Int × Int) × Unit) => ⟨y.1, y.2.1, y.2.2.1, y.2.2.2.1, y.2.2.2.2.1⟩) (fun _ => rfl) (fun _ _ => trivial)
theorem rdEvs : Rd enc Proofs.Tryz.prog W 73 1 aEvs (fun _ => True) :=
 (Rd.slice Proofs.Tryz.underlying73 (by kernel_rfl : Program.cellsOf Proofs.Tryz.prog 101 = 5) (by decide) rdEv).map id (fun _ => rfl) (fun _ _ => trivial)
theorem rdPr : Rd enc Proofs.Tryz.prog W 75 3 aPr (fun _ => True) :=
 (Rd.struct (ts := [9, 72, 73]) Proofs.Tryz.underlying75 rfl rfl (by kernel_rfl) (by kernel_rfl)
  (.cons (Rd.str Proofs.Tryz.underlying9) (fun _ => ⟨rfl, rfl⟩) (.cons rdVars (fun _ => ⟨rfl, rfl⟩) (.cons rdEvs (fun _ => ⟨rfl, rfl⟩) .nil)))).map (fun (y : ByteArray × List (ByteArray × Int) × List Ev × Unit) => ⟨y.1, y.2.1, y.2.2.1⟩) (fun _ => rfl) (fun _ _ => trivial)
theorem rdPrs : Rd enc Proofs.Tryz.prog W 22 1 aPrs (fun _ => True) :=
 (Rd.slice Proofs.Tryz.underlying22 (by kernel_rfl : Program.cellsOf Proofs.Tryz.prog 75 = 3) (by decide) rdPr).map id (fun _ => rfl) (fun _ _ => trivial)
theorem rdTr : Rd enc Proofs.Tryz.prog W 24 1 aTr (fun _ => True) :=
 (Rd.struct (ts := [22]) Proofs.Tryz.underlying24 rfl rfl (by kernel_rfl) (by kernel_rfl) (.cons rdPrs (fun _ => ⟨rfl, rfl⟩) .nil)).map (fun (y : List Pr × Unit) => y.1) (fun _ => rfl) (fun _ _ => trivial)
end
end Go.AL
end
section
namespace Go.AL
open Go Go.RowKit
set_option maxRecDepth 100000
def aPdC : Pd → List AV | .mk k n p q s l => [ai k, ai n, ai p, ai q, astr s, .sl 6 (l.map aPd)]
section
variable {H : Type} {enc : TypeId × Value → H} {W : World}
theorem rdPredN : ∀ N, RdF enc Proofs.Tryz.prog W N 27 6 aPd (fun _ => True)
 | 0 => .zero
 | N + 1 =>
  (RdF.struct (ts := [3, 3, 3, 3, 9, 25]) Proofs.Tryz.underlying27 rfl rfl (by kernel_rfl) (by kernel_rfl)
   (.cons ((Rd.int Proofs.Tryz.underlying3).bounded N) (fun _ => ⟨rfl, rfl⟩) (.cons ((Rd.int Proofs.Tryz.underlying3).bounded N) (fun _ => ⟨rfl, rfl⟩) (.cons ((Rd.int Proofs.Tryz.underlying3).bounded N) (fun _ => ⟨rfl, rfl⟩)
    (.cons ((Rd.int Proofs.Tryz.underlying3).bounded N) (fun _ => ⟨rfl, rfl⟩) (.cons ((Rd.str Proofs.Tryz.underlying9).bounded N) (fun _ => ⟨rfl, rfl⟩)
     (.cons ((RdF.slice Proofs.Tryz.underlying25 (by kernel_rfl : Program.cellsOf Proofs.Tryz.prog 27 = 6) (by decide) (rdPredN N)).mono (Nat.le_succ N)) (fun _ => ⟨rfl, rfl⟩) .nil))))))).map
   (fun (y : Int × Int × Int × Int × ByteArray × List Pd × Unit) => Pd.mk y.1 y.2.1 y.2.2.1 y.2.2.2.1 y.2.2.2.2.1 y.2.2.2.2.2.1) (fun _ => (aPd_mk _ _ _ _ _ _).symm) (fun _ _ => trivial)
theorem rdPreds : Rd enc Proofs.Tryz.prog W 25 1 (fun l : List Pd => .sl 6 (l.map aPd)) (fun l => l.length ≤ maxLen) :=
 (Rd.slice Proofs.Tryz.underlying25 (by kernel_rfl : Program.cellsOf Proofs.Tryz.prog 27 = 6) (by decide) (RdF.all rdPredN)).map id (fun _ => rfl) (fun _ h => h.1)
end
end Go.AL
end
section
namespace Go.AL
open Go Go.RowKit
theorem Rel.tab {P : Program} {W : World} {name : String} {zs : List Int} {g : Nat} (h : Lib.TabIs P W name .i64 zs) (hg : P.globalNamed name = some g) (hz : 0 < zs.length) :
  Rel W (fun b => b < W.heap.size) (.rp 1 (zs.map fun z => .v (.int .i64 z)) 0 0) (.pointer (some ⟨g, 0, none⟩)) := by
 have hA : g < W.heap.size := by
  have hu := h.cell hg 0 hz
  unfold World.cell? at hu
  cases hb : W.heap[g]? with
  | none => simp [hb] at hu
  | some o => exact (Array.getElem?_eq_some_iff.1 hb).1
 have := Rel.rp (w := W) (A := fun b => b < W.heap.size) 1 (zs.map fun z => .v (.int .i64 z)) 0 0 g 0 (fun i => .int .i64 (zs.getD i 0)) hA
  (fun x hx => by obtain ⟨z, _, rfl⟩ := List.mem_map.1 hx; exact ⟨rfl, rfl⟩)
  (fun i hi => by
   rw [List.length_map] at hi
   have := h.cell hg i (by omega)
   simpa using this)
  (fun i x j y hx hy => by
   rw [List.getElem?_map, Option.map_eq_some_iff] at hx
   obtain ⟨z, hz, rfl⟩ := hx
   cases j with
   | succ j => cases hy
   | zero =>
    cases hy
    have e : zs.getD i 0 = z := by rw [List.getD_eq_getElem?_getD, hz]; rfl
    simp only [Nat.mul_one, Nat.add_zero, e]
    exact .v _)
 exact this
end Go.AL
end
