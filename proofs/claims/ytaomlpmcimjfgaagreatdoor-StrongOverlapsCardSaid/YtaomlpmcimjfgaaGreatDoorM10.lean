/- Texts of this claim's proof: AlBr3, AlBr4, AlSrt, WLsf, WCx, AlCutf, AlRed, WCf, WBd, WCl, WRe, WLo, WLp, WLq, WNd, WBs, WSb, WAw, WSr, WOf, WWl. No condition. -/
import Derived.Test.YtaomlpmcimjfgaaGreatDoorM9
import Derived.Lib.LaidTab
import Derived.Shelf.SlSortCmp.Whole1
import Derived.Test.YtaomlpmcimjfgaaGreatDoorProg
import Derived.Shelf.SlGeneric
import Derived.Test.YtaomlpmcimjfgaaGreatDoorM6
import Derived.Test.YtaomlpmcimjfgaaGreatDoorM4
section
namespace Go.AL
open Go Go.RowKit Go.ChangeShapes Go.WideShapes Go.ChangeAt
def RdF {H : Type} (enc : TypeId × Value → H) (P : Program) (W : World) (N : Nat) (t : TypeId) (k : Nat) {α : Type} (E : α → AV) (ok : α → Prop) : Prop :=
 ∀ fuel cs x, fuel ≤ N → DataW.trod enc P W 0 (fun _ => true) true fuel t cs = some x → ∃ y, ok y ∧ elOk k (E y) ∧ cs.length = k ∧ ∀ (i : Nat) c u, (E y).cells[i]? = some c → cs[i]? = some u → Rel W (fun b => b < W.heap.size) c u
section
variable {H : Type} {enc : TypeId × Value → H} {P : Program} {W : World} {t : TypeId}
theorem RdF.all {α : Type} {k : Nat} {E : α → AV} {ok : α → Prop} (h : ∀ N, RdF enc P W N t k E ok) : Rd enc P W t k E ok := fun fuel cs x hx => h fuel fuel cs x (Nat.le_refl _) hx
theorem RdF.mono {α : Type} {k : Nat} {E : α → AV} {ok : α → Prop} {N M : Nat} (h : RdF enc P W N t k E ok) (hM : M ≤ N) : RdF enc P W M t k E ok := fun fuel cs x hf hx => h fuel cs x (by omega) hx
theorem RdF.zero {α : Type} {k : Nat} {E : α → AV} {ok : α → Prop} : RdF enc P W 0 t k E ok := fun fuel cs x hf hx => by
 obtain rfl : fuel = 0 := by omega
 simp [DataW.trod] at hx
theorem RdF.map {α β : Type} {k : Nat} {N : Nat} {E : α → AV} {E' : β → AV} {ok : α → Prop} {ok' : β → Prop} (f : α → β) (hE : ∀ y, E y = E' (f y)) (hok : ∀ y, ok y → ok' (f y)) (h : RdF enc P W N t k E ok) : RdF enc P W N t k E' ok' := by
 intro fuel cs x hN hx
 obtain ⟨y, k1, k2, k3, k4⟩ := h fuel cs x hN hx
 exact ⟨f y, hok y k1, by rw [← hE]; exact k2, k3, by rw [← hE]; exact k4⟩
theorem RdF.slice {N : Nat} {α : Type} {E : α → AV} {ok : α → Prop} {e : TypeId} {k : Nat} (ht : P.underlying t = some (.slice e)) (hk : P.cellsOf e = k) (h0 : 0 < k) (he : RdF enc P W N e k E ok) :
  RdF enc P W (N + 1) t 1 (fun l : List α => .sl k (l.map E)) (fun l => l.length ≤ maxLen ∧ ∀ y ∈ l, ok y) := by
 intro fuel cs x hN h
 rcases DataW.trod_slice ht h with ⟨rfl, _⟩ | ⟨a, len, cap, elems, rest, n, hfu, rfl, _, _, hl, hm, hlen, hel, _, _⟩
 ·refine ⟨[], ⟨by simp, by simp⟩, ⟨rfl, rfl⟩, rfl, fun i c u h1 h2 => ?_⟩
  cases i with
  | zero => cases h1; cases h2; exact .sl0 k none 0 (by simp)
  | succ i => cases h2
 ·rw [hk] at hel
  obtain ⟨l, hll, hli⟩ := ofFin (len := len) (Q := fun i y => ∃ cs : List Value, ok y ∧ elOk k (E y) ∧ cs.length = k ∧ (∀ m, m < k → W.cell? ((a.add (i * k)).add m) = cs[m]?) ∧ ∀ (m : Nat) c u, (E y).cells[m]? = some c → cs[m]? = some u → Rel W (fun b => b < W.heap.size) c u) fun i hi => by
   have h1 := hel i hi
   rw [List.getElem?_eq_getElem (by omega), Option.bind_eq_some_iff] at h1
   obtain ⟨cs, hc, ht⟩ := h1
   obtain ⟨y, k1, k2, k3, k4⟩ := he _ _ _ (by omega) ht
   exact ⟨y, cs, k1, k2, k3, (World.cells?_some hc).2.2, k4⟩
  refine ⟨l, ⟨by omega, fun y hy => ?_⟩, ⟨rfl, rfl⟩, rfl, fun i c u h1 h2 => ?_⟩
  ·obtain ⟨i, hi, rfl⟩ := List.getElem_of_mem hy
   obtain ⟨_, h, _⟩ := hli i (by omega); exact h
  ·cases i with
   | succ i => cases h2
   | zero =>
    cases h1; cases h2
    by_cases hz : len = 0
    ·subst hz
     rw [List.length_eq_zero_iff.1 hll]
     exact .sl0 k _ cap hm
    ·obtain ⟨b, off, spot⟩ := a
     obtain ⟨cs0, _, _, c3, c4, _⟩ := hli 0 (by omega)
     have hs : spot = none := by
      have := c4 0 h0
      have e0 : ∀ a : Addr, a.add 0 = a := fun _ => rfl
      rw [Nat.zero_mul, e0, e0, List.getElem?_eq_getElem (by omega)] at this
      cases spot with
      | none => rfl
      | some s =>
       exfalso
       unfold World.cell? at this
       split at this
       ·rw [if_pos (show (some s).isSome = true from rfl)] at this; cases this
       ·cases this
     subst hs
     have cell : ∀ (i : Nat) (hi : i < len) (m : Nat), m < k → ∃ u, W.cell? ⟨b, off + (i * k + m), none⟩ = some u ∧ ∀ c, (E (l[i]'(by omega))).cells[m]? = some c → Rel W (fun b => b < W.heap.size) c u := fun i hi m hm => by
      obtain ⟨cs, _, _, c3, c4, c5⟩ := hli i (by omega)
      have := c4 m hm
      rw [add_none, add_none, Nat.add_assoc, List.getElem?_eq_getElem (by omega)] at this
      exact ⟨_, this, fun c hc => c5 m c _ hc (List.getElem?_eq_getElem (by omega))⟩
     have hA : b < W.heap.size := by
      obtain ⟨u, hu, _⟩ := cell 0 (by omega) 0 h0
      unfold World.cell? at hu
      cases hb : W.heap[b]? with
      | none => simp [hb] at hu
      | some o => exact (Array.getElem?_eq_some_iff.1 hb).1
     have := Rel.sl (w := W) (A := fun b => b < W.heap.size) k (l.map E) b off cap (fun j => (W.cell? ⟨b, off + j, none⟩).getD undef) hA (by rw [List.length_map]; omega) hm
      (fun x hx => by
       obtain ⟨y, hy, rfl⟩ := List.mem_map.1 hx
       obtain ⟨i, hi, rfl⟩ := List.getElem_of_mem hy
       obtain ⟨cs, _, c2, _⟩ := hli i (by omega)
       exact c2)
      (fun j hj => by
       rw [List.length_map, hll] at hj
       have h1 : j / k < len := (Nat.div_lt_iff_lt_mul h0).2 hj
       obtain ⟨u, hu, _⟩ := cell (j / k) h1 (j % k) (Nat.mod_lt _ h0)
       have e : j / k * k + j % k = j := Nat.div_add_mod' j k
       rw [e] at hu
       rw [hu]; rfl)
      (fun i x j y hx hy => by
       rw [List.getElem?_map, Option.map_eq_some_iff] at hx
       obtain ⟨z, hz, rfl⟩ := hx
       obtain ⟨hi, rfl⟩ := List.getElem?_eq_some_iff.1 hz
       obtain ⟨cs, _, c2, _⟩ := hli i (by omega)
       have hj : j < k := by have := (List.getElem?_eq_some_iff.1 hy).1; have := c2.1; omega
       obtain ⟨u, hu, hr⟩ := cell i (by omega) j hj
       rw [hu]
       exact hr _ hy)
     rw [List.length_map, hll] at this
     exact this
def RdFL (enc : TypeId × Value → H) (P : Program) (W : World) (N : Nat) (ts : List TypeId) {α : Type} (E : α → List AV) (ok : α → Prop) : Prop :=
 ∀ (n : Nat) (cs : List Value) (xs : List (DataW H × List MemPlace)), n ≤ N → xs.length = ts.length → cs.length = ts.length →
  (∀ (i : Nat) t, ts[i]? = some t → DataW.trod enc P W 0 (fun _ => true) true n t ((cs.drop i).take 1) = xs[i]?) →
  ∃ y, ok y ∧ (E y).length = ts.length ∧ (E y).all one = true ∧ ∀ (i : Nat) c u, (E y)[i]? = some c → cs[i]? = some u → Rel W (fun b => b < W.heap.size) c u
theorem RdFL.nil {N : Nat} : RdFL enc P W N [] (fun _ : Unit => []) (fun _ => True) := by
 intro n cs xs _ _ _ _
 exact ⟨(), trivial, rfl, rfl, fun i c u h => by simp at h⟩
theorem RdFL.cons {N : Nat} {α β : Type} {E : α → AV} {ok : α → Prop} {ts : List TypeId} {F : β → List AV} {ok' : β → Prop} (h : RdF enc P W N t 1 E ok) (h1 : ∀ y, one (E y) = true ∧ (E y).cells = [E y]) (hs : RdFL enc P W N ts F ok') :
  RdFL enc P W N (t :: ts) (fun y : α × β => E y.1 :: F y.2) (fun y => ok y.1 ∧ ok' y.2) := by
 intro n cs xs hN hx hc hi
 match xs, cs, hx, hc with
 | x :: xs, u :: cs, hx, hc =>
  have h0 := hi 0 t rfl
  simp only [List.drop_zero, List.take_succ_cons, List.take_zero, List.getElem?_cons_zero] at h0
  obtain ⟨y, k1, _, _, k4⟩ := h _ _ _ hN h0
  obtain ⟨z, g1, g2, g3, g4⟩ := hs n cs xs hN (by simpa using hx) (by simpa using hc) fun i t' ht => by
   have := hi (i + 1) t' (by simpa using ht)
   simpa using this
  refine ⟨(y, z), ⟨k1, g1⟩, by simp [g2], by simp [g3, (h1 y).1], fun i c u' hcc hu => ?_⟩
  cases i with
  | zero => cases hcc; cases hu; exact k4 0 _ _ (by rw [(h1 y).2]; rfl) rfl
  | succ i => exact g4 i c u' (by simpa using hcc) (by simpa using hu)
theorem RdF.struct {N : Nat} {fs : Array Field} {α : Type} {ts : List TypeId} {F : α → List AV} {ok : α → Prop} (ht : P.underlying t = some (.struct fs)) (hts : fs.toList.map (·.type) = ts) (hof : fs.toList.map (·.offset) = List.range ts.length) (hk : P.cellsOf t = ts.length)
  (hc : (ts.all fun t => P.cellsOf t == 1) = true) (h : RdFL enc P W N ts F ok) : RdF enc P W (N + 1) t ts.length (fun y => .agg (F y)) ok := by
 intro fuel cs x hN hx
 obtain ⟨xs, n, hfu, _, hl, hlen, hf⟩ := DataW.trod_struct ht hx
 have hfl : fs.size = ts.length := by rw [← hts]; simp
 obtain ⟨y, k1, k2, k3, k4⟩ := h n cs xs (by omega) (by omega) (by omega) fun i t' ht' => by
  have hi : i < ts.length := (List.getElem?_eq_some_iff.1 ht').1
  have hg : fs[i]? = some fs[i] := Array.getElem?_eq_getElem (by omega)
  have e1 : (fs[i]).type = t' := by
   rw [← hts, List.getElem?_map, Array.getElem?_toList, hg] at ht'
   exact Option.some.inj ht'
  have e2 : (fs[i]).offset = i := by
   have : (fs.toList.map (·.offset))[i]? = some i := by rw [hof, List.getElem?_range hi]
   rw [List.getElem?_map, Array.getElem?_toList, hg] at this
   exact Option.some.inj this
  have := hf i _ hg
  have hct : P.cellsOf t' = 1 := by
   have := List.all_eq_true.1 hc _ (List.mem_of_getElem? ht')
   simpa using this
  rw [e1, e2, hct] at this
  exact this
 exact ⟨y, k1, ⟨k2, k3⟩, by omega, k4⟩
end
end Go.AL
end
section
namespace Go.AL
open Go Go.RowKit
theorem Rel.tab {P : Program} {W : World} {name : String} {zs : List Int} {g : Nat} (h : Lib.TabIs P W name .i64 zs) (hg : P.globalNamed name = some g) (hz : 0 < zs.length) :
  Rel W (fun b => b < W.heap.size) (.rp 1 (zs.map fun z => .v (.int .i64 z)) 0 0) (.pointer (some ⟨g, 0, none⟩)) := by
 have hA : g < W.heap.size := by
  have hu := h.cell hg 0 hz
  unfold World.cell? at hu
  cases hb : W.heap[g]? with
  | none => simp [hb] at hu
  | some o => exact (Array.getElem?_eq_some_iff.1 hb).1
 have := Rel.rp (w := W) (A := fun b => b < W.heap.size) 1 (zs.map fun z => .v (.int .i64 z)) 0 0 g 0 (fun i => .int .i64 (zs.getD i 0)) hA
  (fun x hx => by obtain ⟨z, _, rfl⟩ := List.mem_map.1 hx; exact ⟨rfl, rfl⟩)
  (fun i hi => by
   rw [List.length_map] at hi
   have := h.cell hg i (by omega)
   simpa using this)
  (fun i x j y hx hy => by
   rw [List.getElem?_map, Option.map_eq_some_iff] at hx
   obtain ⟨z, hz, rfl⟩ := hx
   cases j with
   | succ j => cases hy
   | zero =>
    cases hy
    have e : zs.getD i 0 = z := by rw [List.getD_eq_getElem?_getD, hz]; rfl
    simp only [Nat.mul_one, Nat.add_zero, e]
    exact .v _)
 exact this
end Go.AL
end
section
namespace Go.AL
open Go Go.RowKit Go.Lib Go.Sort Go.Proofs Go.Shelf
structure Item (w : World) (A : Foot) {β : Type} (av : β → AV) (Q : β → Prop) where
 u : Value
 x : β
 rel : Rel w A (av x) u
 ok : Q x
def sortBy {β : Type} (cf : β → β → Int) (xs : List β) : List β := xs.mergeSort fun x y => decide (¬ cf y x < 0)
theorem PC.same {P : Program} {f : FuncId} {args : List AV} {vs : List Value} {v : Value} (he : Enters P f) (hv : ∀ w A us, Rels w A args us → us = vs) (h : ∀ w, Calls P f vs.toArray w fun e w' => e = .returned v ∧ w' = w) : PC P f args (.v v) :=
 ⟨he, fun n w A us hL hr => callsIn_wide.2 (by
  rw [hv w A us hr]
  refine Calls.mono (h w) ?_
  rintro e w' ⟨rfl, rfl⟩
  exact ⟨v, .v v, [], A, rfl, ⟨rfl, rfl⟩, .refl _ _, fun _ h => .inl h, hL, (fun x hx => nomatch hx), .v v⟩)⟩
end Go.AL
end
section
namespace Go.AL
open Go Go.RowKit Go.Lib Go.Sort Go.Proofs Go.Shelf
end Go.AL
end
section
namespace Go.AL
open Go Go.RowKit Go.Sort Go.Proofs
set_option maxRecDepth 4000
def cmpL : List Int → List Int → Int
 | [], [] => 0
 | [], _ :: _ => -1
 | _ :: _, [] => 1
 | x :: xs, y :: ys => if x < y then -1 else if y < x then 1 else cmpL xs ys
def cmpI (x y : Int) : Int := if x < y then -1 else if y < x then 1 else 0
def sortL (xs : List (List Int)) : List (List Int) := sortBy cmpL xs
end Go.AL
end
section
namespace Go.AL
open Go Go.RowKit
variable {C : Cfg} {a b : Code} {Q : AQ} {ρ : Env} {L : AHeap}
theorem AWp.capOk {c : Code} {b k cap : Nat} {t : TypeId} {xs : List AV} (hl : lk L b = some (.row t k xs cap)) (h : xs.length ≤ cap → AWp C c Q ρ L) : AWp C c Q ρ L := fun hok n w0 M A0 a w hs => by
 obtain ⟨A, ds, h1, h2, h3, h4⟩ := hs
 obtain ⟨_, _, _, h5, _⟩ := BlkRel.row_iff.1 (h3.lk hl)
 exact h h5 hok n w0 M A0 a w ⟨A, ds, h1, h2, h3, h4⟩
end Go.AL
end
section
namespace Go.AL
open Go Go.RowKit
def aNilR (P : Program) (op : BinOp) (t : TypeId) (x y : AV) : Option (Prop × AV) :=
 match x, y, tinfo P t with
 | .sl _ xs, .v (.slice none 0 0), some ⟨.slice _, _, _, _⟩ => match op with
  | .eql => some (xs ≠ [], ab false)
  | .neq => some (xs ≠ [], ab true)
  | _ => none
 | _, _, _ => none
def avalR (P : Program) (ρ : Env) (L : AHeap) (op : Op) : Option (Prop × AV) :=
 match aval P ρ L op with
 | some z => some z
 | none => match op with
  | .binOp b t x y _ => w2 (ev ρ x) (ev ρ y) (aNilR P b t)
  | _ => none
theorem avalR_congr {P : Program} {ρ ρ' : Env} {L : AHeap} {op : Op} (h : ∀ x ∈ op.operands, ev ρ' x = ev ρ x) : avalR P ρ' L op = avalR P ρ L op := by
 unfold avalR
 rw [aval_congr h]
 cases op with
 | binOp b t x y t' =>
  have e1 := h x (by simp [Op.operands])
  have e2 := h y (by simp [Op.operands])
  simp only [e1, e2]
 | _ => rfl
theorem aNilR_sound {C : Cfg} {o : Oper} {ρ : Env} {L : AHeap} {op : BinOp} {t t' : TypeId} {x y : Operand} (ho : o.op = .binOp op t x y t') (hd : dstOk C o) {c : Prop} {z : AV} (h : w2 (ev ρ x) (ev ρ y) (aNilR C.P op t) = some (c, z)) (hc : c) :
  AOp C o ρ L fun ρ' L' => ρ' = put ρ o.dst z ∧ L' = L := by
 obtain ⟨h1, h2, c', h3, h4⟩ := w2_inv h hc
 unfold aNilR at h3
 split at h3
 ·rename_i k xs e _ _ _ hx hy hti
  have hu := tinfo_slice hti
  have main : ∀ (f : Bool → Bool), ((op = .eql ∧ f = id) ∨ (op = .neq ∧ f = not)) → xs ≠ [] → z = ab (f false) → AOp C o ρ L fun ρ' L' => ρ' = put ρ o.dst z ∧ L' = L := fun f hf hne hz =>
   AOp.of_run (fun c e => by rw [ho] at e; cases e) fun w0 M A0 a w A ds hs => by
    have rx := fo_ok (hs.ev x) h1; rw [hx] at rx
    have ry := fo_ok (hs.ev y) h2; rw [hy] at ry
    have ry := ry.inv_v
    have hval : ∃ a0 n m, a.eval x = .slice a0 n m ∧ a0.isNone = false := by
     generalize a.eval x = u at rx
     cases rx with
     | sl0 _ a0 cap hc => exact absurd rfl hne
     | sl _ _ b off cap => exact ⟨_, _, _, rfl, rfl⟩
    obtain ⟨a0, n, m, e, hne⟩ := hval
    refine ⟨_, w, ?_, .inl ⟨.bool (f a0.isNone), rfl, _, _, ⟨by rw [hz], rfl⟩, st_iff.2 ⟨A, ds, hs.put hd (by rw [hne]; exact .v _)⟩⟩⟩
    unfold execOp
    rw [ho]
    rcases hf with ⟨rfl, rfl⟩ | ⟨rfl, rfl⟩
    ·simp [e, ry, eqGuard_slice, binOp, equal_slice_nil hu]
    ·simp [e, ry, eqGuard_slice, binOp, equal_slice_nil hu]
  split at h3
  ·cases h3; exact main id (.inl ⟨rfl, rfl⟩) h4 rfl
  ·cases h3; exact main not (.inr ⟨rfl, rfl⟩) h4 rfl
  ·cases h3
 ·cases h3
theorem avalR_sound {C : Cfg} {o : Oper} {ρ : Env} {L : AHeap} {c : Prop} {x : AV} (hv : avalR C.P ρ L o.op = some (c, x)) (hc : c) (hd : dstOk C o) (hdef : ∀ c, o.op ≠ .defer c) : AOp C o ρ L fun ρ' L' => ρ' = put ρ o.dst x ∧ L' = L := by
 unfold avalR at hv
 split at hv
 ·rename_i z hz
  cases hv
  exact aval_sound hz hc hd hdef
 ·split at hv
  ·rename_i ho
   exact aNilR_sound ho hd hv hc
  ·cases hv
def YldL (C : Cfg) (ops : Array Oper) (i : Nat) (o : Oper) (x : AV) (ρ : Env) (L : AHeap) : Prop :=
 ∀ ρ', (∀ t ∈ o.looksAt ops, get ρ' t = get ρ t) → GOp C ops i ρ' L fun ρ2 L2 => ρ2 = put ρ' o.dst x ∧ L2 = L
def aqL (C : Cfg) (all : List Oper) (o : Oper) (ρ : Env) (L : AHeap) (K : Env → Prop) : Prop :=
 match o.guard with
 | none => match avalR C.P ρ L o.op with
  | some (c, x) => c ∧ K (put ρ o.dst x)
  | none => match o.op with
   | .call c => match c.callee with
    | .value g => GCall C.P True ((fo (ev ρ g)).1 ∧ fos (c.args.toList.map (ev ρ))) (fo (ev ρ g)).2 (c.args.toList.map fun x => (fo (ev ρ x)).2) L (putQ K ρ o.dst)
    | _ => False
   | _ => False
 | some (j, want) => match gval all ρ j want with
  | some b => match avalR C.P ρ L o.op with
   | some (c, x) => (b = want → c) ∧ K (put ρ o.dst (.cond (b == want) x))
   | none => match o.op with
    | .call c => match c.callee with
     | .value g => GCall C.P (b = want) ((fo (ev ρ g)).1 ∧ fos (c.args.toList.map (ev ρ))) (fo (ev ρ g)).2 (c.args.toList.map fun x => (fo (ev ρ x)).2) L (putQC K ρ o.dst (b == want))
     | _ => b ≠ want ∧ K (put ρ o.dst (.cond (b == want) .any))
    | _ => b ≠ want ∧ K (put ρ o.dst (.cond (b == want) .any))
  | none => False
def aqLRun (C : Cfg) (all : List Oper) (L : AHeap) : List Nat → (Env → Prop) → Env → Prop
 | [], K, ρ => K ρ
 | i :: r, K, ρ => match all[i]? with
  | some o => aqL C all o ρ L (aqLRun C all L r K)
  | none => False
section
variable {C : Cfg} {ops : Array Oper} {L : AHeap}
theorem aqL_yields {i : Nat} {o : Oper} {ρ : Env} {K : Env → Prop} (hi : ops[i]? = some o) (hok : operOk C.N o = true) (h : aqL C ops.toList o ρ L K) : ∃ x, YldL C ops i o x ρ L ∧ K (put ρ o.dst x) := by
 have hd := operOk_dst hok
 have hdef := operOk_def hok
 unfold aqL at h
 split at h
 ·rename_i hg
  split at h
  ·rename_i c x hv
   exact ⟨x, fun ρ' hag => AOp.gop hi hg (avalR_sound (by rw [avalR_congr (agree_ops hag)]; exact hv) h.1 hd hdef), h.2⟩
  ·split at h
   ·rename_i cl ho
    split at h
    ·rename_i g h0
     obtain ⟨r, h1, h2⟩ := h
     refine ⟨r, fun ρ' hag => AOp.gop hi hg ?_, h2⟩
     have hag' := agree_ops hag
     rw [ho] at hag'
     obtain ⟨e1, e2, e3⟩ := call_congr h0 hag'
     exact call_sound ho h0 hd (by rw [e1, e2, e3]; exact ⟨(h1 trivial).1.1, (h1 trivial).1.2, (h1 trivial).2⟩)
    ·exact h.elim
   ·exact h.elim
 ·rename_i j want hg
  split at h
  ·rename_i b hv
   split at h
   ·rename_i c x ha
    refine ⟨_, fun ρ' hag => GOp.of_cond hi hg (by rw [agree_guard hag hg]; exact hv) hd fun hb => avalR_sound (by rw [avalR_congr (agree_ops hag)]; exact ha) (h.1 hb) hd hdef, h.2⟩
   ·split at h
    ·rename_i cl ho
     split at h
     ·rename_i g h0
      obtain ⟨r, h1, h2⟩ := h
      refine ⟨_, fun ρ' hag => GOp.of_cond hi hg (by rw [agree_guard hag hg]; exact hv) hd fun hb => ?_, h2⟩
      have hag' := agree_ops hag
      rw [ho] at hag'
      obtain ⟨e1, e2, e3⟩ := call_congr h0 hag'
      exact call_sound ho h0 hd (by rw [e1, e2, e3]; exact ⟨(h1 hb).1.1, (h1 hb).1.2, (h1 hb).2⟩)
     ·refine ⟨_, fun ρ' hag => GOp.of_cond hi hg (by rw [agree_guard hag hg]; exact hv) hd fun hb => absurd hb h.1, h.2⟩
    ·refine ⟨_, fun ρ' hag => GOp.of_cond hi hg (by rw [agree_guard hag hg]; exact hv) hd fun hb => absurd hb h.1, h.2⟩
  ·exact h.elim
def QFactL (C : Cfg) (ops : Array Oper) (ρ : Env) (L : AHeap) (q : Nat) : Prop := ∃ o x, ops[q]? = some o ∧ YldL C ops q o x ρ L ∧ ∀ d, o.dst = some d → get ρ d = x
theorem YldL.of_agree {i : Nat} {o : Oper} {x : AV} {ρ ρ' : Env} (h : YldL C ops i o x ρ L) (he : ∀ t ∈ o.looksAt ops, get ρ' t = get ρ t) : YldL C ops i o x ρ' L :=
 fun ρ2 hag => h ρ2 fun t ht => (hag t ht).trans (he t ht)
theorem aqLRun_facts {qs0 : List Nat} (hm : mixOk ops qs0 = true) (hok : ops.toList.all (operOk C.N) = true) : ∀ (qs : List Nat) (ρ : Env) (K : Env → Prop), (∀ q ∈ qs, q ∈ qs0) → ascend qs = true → aqLRun C ops.toList L qs K ρ →
  ∃ ρq, K ρq ∧ (∀ q ∈ qs, QFactL C ops ρq L q) ∧ ∀ s, (∀ q ∈ qs, dstOf ops q ≠ some s) → get ρq s = get ρ s
 | [], ρ, K, _, _, h => ⟨ρ, h, fun q hq => (by cases hq), fun _ _ => rfl⟩
 | i :: r, ρ, K, hsub, hasc, h => by
  obtain ⟨hlt, hasc'⟩ := ascend_cons hasc
  simp only [aqLRun] at h
  cases ho : ops.toList[i]? with
  | none => rw [ho] at h; exact h.elim
  | some o =>
   rw [ho] at h
   have ho' : ops[i]? = some o := by simpa using ho
   obtain ⟨x, hy, hK⟩ := aqL_yields ho' (List.all_eq_true.1 hok o (List.mem_of_getElem? ho)) h
   obtain ⟨ρq, h1, h2, h3⟩ := aqLRun_facts hm hok r _ K (fun q hq => hsub q (List.mem_cons_of_mem _ hq)) hasc' hK
   obtain ⟨p1, p2, _⟩ := mix_at hm ho'
   have hself : ∀ d, o.dst = some d → d ∉ o.looksAt ops := fun d hd hm' => by
    have := (p2 i (hsub i List.mem_cons_self) d (by simp [dstOf, ho', hd])).1 hm'
    exact absurd (p1 i this) (Nat.lt_irrefl i)
   refine ⟨ρq, h1, fun q hq => ?_, fun s hs => ?_⟩
   ·rcases List.mem_cons.1 hq with rfl | hq
    ·refine ⟨o, x, ho', hy.of_agree fun t ht => ?_, fun d hd => ?_⟩
     ·rw [h3 t fun q' hq' he => ?_, get_put, if_neg fun he => hself t he ht]
      have := (p2 q' (hsub q' (List.mem_cons_of_mem _ hq')) t he).1 ht
      have := p1 q' this; have := hlt q' hq'; omega
     ·rw [h3 d fun q' hq' he => ?_, get_put, if_pos hd]
      exact (p2 q' (hsub q' (List.mem_cons_of_mem _ hq')) d he).2 (by have := hlt q' hq'; omega) hd
    ·exact h2 q hq
   ·rw [h3 s fun q hq => hs q (List.mem_cons_of_mem _ hq), get_put, if_neg]
    have := hs i List.mem_cons_self
    simpa [dstOf, ho'] using this
theorem read_sound {qs : List Nat} (hm : mixOk ops qs = true) (hall : ∀ i, i < ops.size → i ∈ qs) {K : ARes} {n : Nat} {w0 : World} {M A0 : Foot} {Q : Exit → Act → World → Prop} (hQ : ∀ a w, post w0 M A0 C.N K a w → Q .normal a w) {ρT : Env} (hK : K ρT L) :
  ∀ (f : Nat) (listed : Array Bool) (a : Act) (w : World), listed.size = ops.size →
   (∀ l : List Nat, l.Nodup → (∀ i ∈ l, listed.getD i true = false) → l.length ≤ f) →
   (∀ q ∈ qs, listed.getD q true = false → QFactL C ops ρT L q) → St w0 M A0 C.N (mask ops qs listed ρT) L a w →
   wpAnyIn (Fw C.r) n C.P .any ops Q f listed a w := by
 have fin : ∀ (listed : Array Bool) (a : Act) (w : World), listed.size = ops.size → St w0 M A0 C.N (mask ops qs listed ρT) L a w → Region.ready .any ops listed = [] → Q .normal a w := by
  intro listed a w hsz hs hr
  have all : ∀ i, listed.getD i true = true := by
   intro i
   induction i using Nat.strongRecOn with
   | _ i ih =>
    cases hi : listed.getD i true with
    | true => rfl
    | false =>
     exfalso
     have hlt : i < ops.size := by
      rw [← hsz]
      by_cases h : i < listed.size
      ·exact h
      ·simp [Array.getD, h] at hi
     have ho : ops[i]? = some ops[i] := Array.getElem?_eq_getElem hlt
     have : i ∈ Region.ready .any ops listed := mem_ready.2 ⟨hi, _, ho, fun e he hb => by
      have hp := (mix_at hm ho).1 e.on (List.mem_map.2 ⟨e, List.mem_filter.2 ⟨by simpa using he, hb⟩, rfl⟩)
      exact getD_ft (by omega) (ih _ hp)⟩
     rw [hr] at this; cases this
  refine hQ a w ⟨ρT, L, hK, st_forget hs fun i => .inr ?_⟩
  rw [mask_out fun q _ hl => by rw [all q] at hl; cases hl]
 intro f
 induction f with
 | zero =>
  intro listed a w hsz hcnt hfact hs
  have hr : Region.ready .any ops listed = [] := by
   cases hh : Region.ready .any ops listed with
   | nil => rfl
   | cons j r =>
    have hj : j ∈ Region.ready .any ops listed := by rw [hh]; exact List.mem_cons_self
    have := hcnt [j] (by simp) (fun i hi => by simp at hi; subst hi; exact (mem_ready.1 hj).1)
    simp at this
  exact ⟨hr, fin listed a w hsz hs hr⟩
 | succ f ih =>
  intro listed a w hsz hcnt hfact hs
  refine ⟨fin listed a w hsz hs, fun i hi => ?_⟩
  obtain ⟨hun, o, ho, hpre⟩ := mem_ready.1 hi
  have hlt : i < ops.size := (Array.getElem?_eq_some_iff.1 ho).1
  obtain ⟨m1, m2, m3⟩ := mix_at hm ho
  have hlooks : ∀ t ∈ o.looksAt ops, get (mask ops qs listed ρT) t = get ρT t := fun t ht => mask_out fun q hq hl hd => by
   have hp := (m2 q hq t hd).1 ht
   obtain ⟨e, he, rfl⟩ := List.mem_map.1 hp
   obtain ⟨he1, he2⟩ := List.mem_filter.1 he
   have := getD_tf (hpre e (by simpa using he1) he2)
   rw [hl] at this; cases this
  have hcnt' : ∀ l : List Nat, l.Nodup → (∀ j ∈ l, (listed.setIfInBounds i true).getD j true = false) → l.length ≤ f := fun l hn hl => by
   have hil : i ∉ l := fun h => by
    have := hl i h
    simp [Array.getD, show i < listed.size by omega] at this
   have := hcnt (i :: l) (List.nodup_cons.2 ⟨hil, hn⟩) (fun j hj => by
    rcases List.mem_cons.1 hj with rfl | hj
    ·exact hun
    ·have := hl j hj
     have hne : i ≠ j := fun e => hil (e ▸ hj)
     rwa [getD_set_ne true hne] at this)
   simp at this; omega
  have hset : ∀ j, j ≠ i → (listed.setIfInBounds i true).getD j true = listed.getD j true := fun j hj => getD_set_ne true (Ne.symm hj)
  have hq := hall i hlt
  obtain ⟨o', x, ho', hy, hgx⟩ := hfact i hq hun
  rw [ho] at ho'; cases ho'
  refine wpOpIn_mono ?_ (hy _ hlooks n w0 M A0 a w Q hs)
  rintro a' w' ⟨ρ2, L2, ⟨rfl, rfl⟩, hs2⟩
  refine ih _ a' w' (by simpa using hsz) hcnt' (fun q hq' hl => hfact q hq' (by
   by_cases e : q = i
   ·subst e; exact hun
   ·rwa [hset q e] at hl)) (st_forget hs2 fun s => ?_)
  rcases mask_or (ops := ops) qs (listed.setIfInBounds i true) ρT s with ⟨h1, _⟩ | ⟨h1, h2⟩
  ·exact .inl h1
  ·refine .inr ?_
   rw [h1, get_put]
   by_cases hd : o.dst = some s
   ·rw [if_pos hd]; exact hgx s hd
   ·rw [if_neg hd, mask_out fun q hq' hl hds => ?_]
    by_cases e : q = i
    ·subst e; exact hd (by simpa [dstOf, ho] using hds)
    ·exact h2 q hq' (by rw [hset q e]; exact hl) hds
end
def readAll (ops : Array Oper) (qs : List Nat) : Bool := mixOk ops qs && (List.range ops.size).all fun i => qs.contains i
def readK (K : ARes) (L : AHeap) (ρ : Env) : Prop := K ρ L
theorem AWp.read {C : Cfg} {id : Nat} {ops : Array Oper} {Q : AQ} {ρ : Env} {L : AHeap} (hmx : C.P.follows .mixedOrders = true) (qs : List Nat) (hT : readAll ops qs = true) (h : aqLRun C ops.toList L qs (readK (Q .normal) L) ρ) :
  AWp C (.region id ops true) Q ρ L := fun hok n w0 M A0 a w hs => by
 simp only [readAll, Bool.and_eq_true, List.all_eq_true, List.contains_eq_mem, decide_eq_true_eq] at hT
 obtain ⟨hm, hal⟩ := hT
 have hasc := mix_asc hm
 obtain ⟨ρq, hK, hF, hother⟩ := aqLRun_facts hm hok qs ρ _ (fun _ h => h) hasc.1 h
 refine wpIn_region_any hmx ?_
 obtain ⟨A, ds, hs'⟩ := st_iff.1 hs
 refine read_sound hm (fun i hi => hal i (List.mem_range.2 hi)) (K := Q .normal) (fun a w ⟨ρ', L', h1, h2⟩ => ⟨ρ', L', h1, h2⟩) hK ops.size _ a _ (by simp) ?_ (fun q hq _ => hF q hq) (st_forget (st_iff.2 ⟨A, ds, hs'.drew⟩) fun s => ?_)
 ·intro l hn hl
  have := List.Nodup.length_le_of_subset hn (l₂ := List.range ops.size) (fun i hi => by
   have := hl i hi
   rw [List.mem_range]
   by_cases h : i < ops.size
   ·exact h
   ·simp [Array.getD, h] at this)
  simpa using this
 ·rcases mask_or (ops := ops) qs (Array.replicate ops.size false) ρq s with ⟨h1, _⟩ | ⟨h1, h2⟩
  ·exact .inl h1
  ·refine .inr ?_
   rw [h1]
   exact hother s fun q hq hd => h2 q hq (by simp [Array.getD, hasc.2 q hq]) hd
theorem aqLRun_nil (C : Cfg) (all : List Oper) (L : AHeap) (K : Env → Prop) (ρ : Env) : aqLRun C all L [] K ρ = K ρ := rfl
theorem aqLRun_cons (C : Cfg) (all : List Oper) (L : AHeap) (i : Nat) (r : List Nat) (K : Env → Prop) (ρ : Env) : aqLRun C all L (i :: r) K ρ = (match all[i]? with | some o => aqL C all o ρ L (aqLRun C all L r K) | none => False) := rfl
attribute [go_sem] aqLRun_nil aqLRun_cons aqL readK avalR aNilR
end Go.AL
end
section
namespace Go.AL
open Go Go.RowKit
set_option maxRecDepth 4000
def compN (xs : List (List Int)) : Nat → List (List Int)
 | 0 => []
 | 1 => xs.take 1
 | n + 2 => if xs[n + 1]? = xs[n]? then compN xs (n + 1) else compN xs (n + 1) ++ xs[n + 1]?.toList
def compL (xs : List (List Int)) : List (List Int) := compN xs xs.length
end Go.AL
end
section
namespace Go.AL
open Go Go.RowKit
set_option maxRecDepth 4000
def okL (E : Elim) (p : Nat) : List AV := (List.range (E.top p + 1)).map fun k => ab (E.ok p k)
def okM (E : Elim) : List AV := (List.range E.n).map fun p => .sl 1 (okL E p)
def needL (E : Elim) (q m : Nat) : List AV := (List.range E.n).map fun p => ai (E.need q m p)
def needM (E : Elim) (q : Nat) : List AV := (List.range (E.top q + 1)).map fun m => .sl 1 (needL E q m)
def needT (E : Elim) : List AV := (List.range E.n).map fun q => .sl 1 (needM E q)
section
variable {E : Elim} {p q m k : Nat}
end
def aBoard (E : Elim) (now : Nat → Nat) : AV := .rp 3 [.agg [.sl 1 (needT E), .sl 1 (okM E), .sl 1 (dnA E.n now)]] 0 0
structure SmE (E : Elim) : Prop where
 n : E.n ≤ 1000000
 top : ∀ q, E.top q ≤ 1000000
def lostB (E : Elim) (now : Nat → Nat) : Bool := (List.range E.n).any fun q => decide (E.top q < now q)
def boardL (E : Elim) (now : Nat → Nat) (bb bn : Nat) : AHeap := [(bb, .row 116 3 [.agg [.sl 1 (needT E), .sl 1 (okM E), .ls bn 1 0 E.n E.n]] 1), (bn, .row 3 1 (dnA E.n now) E.n)]
end Go.AL
end
section
namespace Go.AL
open Go Go.RowKit
set_option maxRecDepth 4000
theorem ref22_Sent (ps : List Pr) (hs : Sm ps) (hv : validF ps = true) (c : List Int) (hc : c.length = ps.length) (p : Nat) (hp : p < ps.length) (i : Nat) (hi : i < ps[p].evs.length) (hic : (i : Int) < cAt c p) :
  PC Proofs.Tryz.prog 159 [aTr ps, aInts c, ai p, ai i] (ab (!badEv ps c (((p : Int), (i : Int) + 1), ps[p].evs[i]))) := by
 obtain ⟨hl1, hl8⟩ := valid_len hv
 have hl := hs.procs
 have hel := hs.evs _ (List.getElem_mem hp)
 have hgp := getD_map (f := aPr) hp
 have hge := getD_map (f := aEv) hi
 have hbad : badEv ps c (((p : Int), (i : Int) + 1), ps[p].evs[i]) = (decide (ps[p].evs[i].kind = 3) && decide (cAt c (findIn (evIds ps) 2 ps[p].evs[i].msg).1 < (findIn (evIds ps) 2 ps[p].evs[i].msg).2)) := by
  simp only [badEv, decide_eq_true (show (i : Int) + 1 ≤ cAt c p by omega), Bool.and_true]
 rw [hbad]
 have hfd := ref12_Find ps hs 2 ps[p].evs[i].msg
 obtain ⟨f1, f2⟩ := findIn_proc hl1 2 ps[p].evs[i].msg
 have hgs := getD_cAt (c := c) f1 (by omega)
 generalize findIn (evIds ps) 2 ps[p].evs[i].msg = s at *
 refine PC.enter 35 [.tmp 8] [4, 9, 10] Proofs.Tryz.func159 rfl rfl rfl rfl rfl (by simp) (AWp.of ?_); simp only [go_sem]
 repeat (first | ((with_reducible refine AWp.ofC ?_ ?_); exact rfl; simp only [go_sem, hgp, hge]) | ((with_reducible refine an ?_ ?_); exact Au))
 intro b9
 repeat (first | ((with_reducible refine AWp.ofC ?_ ?_); exact rfl; simp only [go_sem]) | ((with_reducible refine an ?_ ?_); exact Au))
 refine ⟨fun h3 => ?_, fun h3 => ?_⟩
 ·repeat (first | ((with_reducible refine AWp.ofC ?_ ?_); exact rfl; simp only [go_sem]) | ((with_reducible refine an ?_ ?_); exact Au))
  refine ret_eq ?_; simp only [go_sem]
  rw [decide_eq_false h3]; rfl
 ·repeat (first | ((with_reducible refine AWp.ofC ?_ ?_); exact rfl; simp only [go_sem]) | ((with_reducible refine an ?_ ?_); exact Au))
  repeat ((with_reducible refine an ?_ ?_); exact As)
  refine (hfd).val.use ?_; simp only [go_sem]
  repeat ((with_reducible refine an ?_ ?_); exact As)
  intro b10
  refine AWp.seq ?_
  refine AWp.drawn mixed 8 (by kernel_rfl) ?_; simp only [go_sem, hgs]
  repeat ((with_reducible refine an ?_ ?_); exact As)
  repeat (first | ((with_reducible refine AWp.ofC ?_ ?_); exact rfl; simp only [go_sem]) | ((with_reducible refine an ?_ ?_); exact Au))
  refine ret_eq ?_; simp only [go_sem]
  rw [decide_eq_true h3, Bool.true_and, ← decide_not]
  congr 2
  simp only [decide_eq_decide]; omega
theorem stC_ok {ps : List Pr} {p : Nat} {k : Int} (hp : p < ps.length) (h0 : 0 ≤ k) (hk : k ≤ ps[p].evs.length) : (stC ps.length p k).length = ps.length ∧ inRangeF ps (stC ps.length p k) = true := by
 have hl : (stC ps.length p k).length = ps.length := by unfold stC; rw [List.length_set, List.length_replicate]
 refine ⟨hl, ?_⟩
 rw [inRange_iff hl]
 intro q hq
 unfold cAt stC
 rw [Int.toNat_natCast, getD_set0]
 split
 ·rename_i e; obtain ⟨rfl, _⟩ := e; omega
 ·rw [List.getD_eq_getElem?_getD, List.getElem?_replicate, if_pos hq]
  exact ⟨Int.le_refl 0, by simp⟩
end Go.AL
end
section
namespace Go.AL
open Go Go.RowKit
set_option maxRecDepth 4000
theorem ref25_Index (ps : List Pr) (hs : Sm ps) (p : Int) (hpb : isPB ps.length p = true) (s : ByteArray) : PC Proofs.Tryz.prog 173 [aTr ps, ai p, astr s] (ai (varX ps p s)) := by
 obtain ⟨p, rfl, hp⟩ := isPB_nat hpb
 rw [varX_get hp]
 have hm := List.getElem_mem hp
 have hvl := hs.vars _ hm
 have hgp := getD_map (f := aPr) hp
 have hhit : ∀ i (hi : i < ps[p].vars.length), (∀ j (hj : j < ps[p].vars.length), j < i → nmB s ps[p].vars[j] = false) → nmB s ps[p].vars[i] = true → varIx ps[p].vars s = i := by
  intro i hi h0 h1
  have : ps[p].vars.findIdx? (nmB s) = some i := by rw [List.findIdx?_eq_some_iff_getElem]; exact ⟨hi, h1, fun j hj => by simpa using h0 j (by omega) hj⟩
  unfold varIx; rw [this]
 have hno : (∀ j (hj : j < ps[p].vars.length), nmB s ps[p].vars[j] = false) → varIx ps[p].vars s = -1 := by
  intro h0
  have : ps[p].vars.findIdx? (nmB s) = none := by
   rw [List.findIdx?_eq_none_iff]; intro x hx; obtain ⟨i, hi, rfl⟩ := List.getElem_of_mem hx; exact h0 i hi
  unfold varIx; rw [this]
 generalize varIx ps[p].vars s = r at *
 refine PC.enter 29 [.tmp 6] [3] Proofs.Tryz.func173 rfl rfl rfl rfl rfl (by simp) (AWp.of ?_); simp only [go_sem]
 repeat (first | ((with_reducible refine AWp.ofC ?_ ?_); exact rfl; simp only [go_sem, hgp]) | ((with_reducible refine an ?_ ?_); exact Au))
 refine AWp.block (AWp.count 8 ps[p].vars.length [] [2, 7] (fun i vs L => L = [] ∧ ∀ j (hj : j < ps[p].vars.length), j < i → nmB s ps[p].vars[j] = false) rfl rfl ⟨rfl, by omega⟩ ?_)
 rintro i vs L hi - ⟨rfl, hI⟩
 simp only [go_sem]
 repeat (first | ((with_reducible refine AWp.ofC ?_ ?_); exact rfl; simp only [go_sem]) | ((with_reducible refine an ?_ ?_); exact Au))
 refine ⟨fun h1 => ?_, fun h1 => ?_⟩
 ·have hiv : i < ps[p].vars.length := by omega
  have hgv := getD_map (f := aVar) hiv
  repeat (first | ((with_reducible refine AWp.ofC ?_ ?_); exact rfl; simp only [go_sem, hgv]) | ((with_reducible refine an ?_ ?_); exact Au))
  refine ⟨fun h2 => ?_, fun h2 => ?_⟩
  ·repeat (first | ((with_reducible refine AWp.ofC ?_ ?_); exact rfl; simp only [go_sem]) | ((with_reducible refine an ?_ ?_); exact Au))
   refine ret_eq ?_; simp only [go_sem]
   rw [hhit i hiv hI (decide_eq_true h2)]
  ·repeat (first | ((with_reducible refine AWp.ofC ?_ ?_); exact rfl; simp only [go_sem]) | ((with_reducible refine an ?_ ?_); exact Au))
   refine ⟨_, List.Sublist.refl _, rfl, fun j hj hji => ?_⟩
   by_cases e : j = i
   ·subst e; exact decide_eq_false h2
   ·exact hI j hj (by omega)
 ·repeat (first | ((with_reducible refine AWp.ofC ?_ ?_); exact rfl; simp only [go_sem]) | ((with_reducible refine an ?_ ?_); exact Au))
  refine ret_eq ?_; simp only [go_sem]
  rw [hno fun j hj => hI j hj (by omega)]
def leafR (ps : List Pr) (c : List Int) (o : Obs) : Pd → Prop
 | .mk k _ p _ s _ => (k = 2 → ∃ ix cv : Int, PC Proofs.Tryz.prog 173 [aTr ps, ai p, astr s] (ai ix) ∧ PC Proofs.Tryz.prog 172 [aTr ps, ai p, ai ix, ai cv] (ai (o.var p s)) ∧ 0 ≤ p ∧ c[p.toNat]? = some cv) ∧ (k = 3 → 0 ≤ p ∧ c[p.toNat]? = some (o.cnt p)) ∧ (k = 4 → False)
theorem ref29_Value (ps : List Pr) (c : List Int) (o : Obs) (_hcl : c.length ≤ 1000000) (t : Pd) : szF t ≤ 1000000 → okT ps t = true → t.kind ≤ 8 → (intF ps t).2.2 = true → AllP (obsB ps o) t → AllP (leafR ps c o) t →
  PC Proofs.Tryz.prog 137 [aTr ps, aInts c, aPd t] (ai (valF o t)) := by
 induction t using Pd.ind with
 | _ k n p q s l ih =>
 intro hz ht hk hi hob hlf
 have hbnd := valF_bounds ps o _ ht hk hob hi
 obtain ⟨o1, o2, o3, o4⟩ := okT_sub ht
 obtain ⟨hpl, _⟩ := loc_len o1
 simp only [Pd.kind] at hk
 have hch := child_le ht (show k ≤ 12 by omega)
 have hsz : szF (.mk k n p q s l) = szL l + 1 := by rw [szF]
 have hsp := valF_mk o k n p q s l
 have hci := bd_child hi
 obtain ⟨⟨lf2, lf3, lf4⟩, hls⟩ := AllP_sub hlf
 obtain ⟨_, hos⟩ := AllP_sub hob
 generalize valF o (.mk k n p q s l) = R at *
 have hb : -1125899906842624 ≤ R ∧ R ≤ 1125899906842624 := by omega
 clear hbnd hi
 have hcb := fun (x : Pd) (hx : x ∈ l) (h : l.length ≤ 2) => valF_bounds ps o x (hch x hx).1 (hch x hx).2 (hos x hx) (hci h x hx)
 rcases parts_cases k with ⟨e, hc⟩ | ⟨e, hc⟩ | ⟨e, hc⟩ | e
 ·obtain rfl := len0 (l := l) (by omega)
  simp only [List.map_nil, valN, aPd_mk] at *
  have hk4 : k = 1 ∨ k = 2 ∨ k = 3 ∨ k = 4 := by omega
  rcases hk4 with h | h | h | h
  ·have hsp : R = n := by rw [hsp, if_pos h]
   refine PC.enter 106 [.tmp 6] [3, 5] Proofs.Tryz.func137 rfl rfl rfl rfl rfl (by simp) (AWp.of ?_); simp only [go_sem]
   repeat (first | ((with_reducible refine AWp.ofC ?_ ?_); exact rfl; simp only [go_sem, (eq_true h)]) | ((with_reducible refine an ?_ ?_); exact Au))
   refine ret_eq ?_; simp only [go_sem]
   rw [hsp]
  ·obtain ⟨ix, cv, g1, g2, g3, g4⟩ := lf2 h
   obtain ⟨hpc, hpe⟩ := List.getElem?_eq_some_iff.1 g4
   have hg := getD_map (f := ai) hpc
   rw [hpe] at hg
   have h1 : ¬ k = 1 := by omega
   rw [if_neg h1, if_pos h] at hsp
   refine PC.enter 106 [.tmp 6] [3, 5] Proofs.Tryz.func137 rfl rfl rfl rfl rfl (by simp) (AWp.of ?_); simp only [go_sem]
   repeat (first | ((with_reducible refine AWp.ofC ?_ ?_); exact rfl; simp only [go_sem, (eq_true h), h1]) | ((with_reducible refine an ?_ ?_); exact Au))
   repeat (first | (with_reducible refine AWp.seq ?_) | (with_reducible refine AWp.block ?_))
   refine AWp.mix mixed [0, 1, 2, 3, 4, 5, 6, 7, 8, 9, 10, 11, 12, 13, 14, 15] .done (by kernel_rfl) ?_; simp only [go_sem]
   repeat ((with_reducible refine an ?_ ?_); exact As)
   refine GCall.use (ai ix) (fun _ => ⟨At, (g1).val.use ⟨rfl, rfl⟩⟩) ?_; simp only [go_sem, hg]
   repeat ((with_reducible refine an ?_ ?_); exact As)
   refine GCall.use (ai (o.var p s)) (fun _ => ⟨At, (g2).val.use ⟨rfl, rfl⟩⟩) ?_; simp only [go_sem]
   repeat ((with_reducible refine an ?_ ?_); exact As)
   repeat (first | ((with_reducible refine AWp.ofC ?_ ?_); exact rfl; simp only [go_sem]) | ((with_reducible refine an ?_ ?_); exact Au))
   refine ret_eq ?_; simp only [go_sem]
   rw [hsp]
  ·obtain ⟨p0, pc⟩ := lf3 h
   obtain ⟨hpc, hpe⟩ := List.getElem?_eq_some_iff.1 pc
   have hg := getD_map (f := ai) hpc
   have h1 : ¬ k = 1 := by omega
   have h2 : ¬ k = 2 := by omega
   rw [if_neg h1, if_neg h2, if_pos h] at hsp
   rw [hpe] at hg
   refine PC.enter 106 [.tmp 6] [3, 5] Proofs.Tryz.func137 rfl rfl rfl rfl rfl (by simp) (AWp.of ?_); simp only [go_sem]
   repeat (first | ((with_reducible refine AWp.ofC ?_ ?_); exact rfl; simp only [go_sem, (eq_true h), h1, h2, hg]) | ((with_reducible refine an ?_ ?_); exact Au))
   refine ret_eq ?_; simp only [go_sem]
   rw [hsp]
  ·exact (lf4 h).elim
 ·obtain ⟨a, rfl⟩ := len1 (l := l) (by omega)
  have h5 : k = 5 := by omega
  have h1 : ¬ k = 1 := by omega
  have h2 : ¬ k = 2 := by omega
  have h3 : ¬ k = 3 := by omega
  have h4 : ¬ k = 4 := by omega
  obtain ⟨c1, c2⟩ := hch a (by simp)
  have hza := szL_mem (l := [a]) (x := a) (by simp)
  have hca := ih a (by simp) (by omega) c1 c2 (hci (by simp) a (by simp)) (hos a (by simp)) (hls a (by simp))
  have hcb := hcb a (by simp) (by simp)
  simp only [List.map_cons, List.map_nil, valN] at hsp
  generalize valF o a = A at *
  obtain ⟨ka, na, pa, qa, sa, la⟩ := a
  simp only [aPd_mk, List.map_cons, List.map_nil] at *
  refine PC.enter 106 [.tmp 6] [3, 5] Proofs.Tryz.func137 rfl rfl rfl rfl rfl (by simp) (AWp.of ?_); simp only [go_sem]
  repeat (first | ((with_reducible refine AWp.ofC ?_ ?_); exact rfl; simp only [go_sem, (eq_true h5), h1, h2, h3, h4]) | ((with_reducible refine an ?_ ?_); exact Au))
  repeat (first | (with_reducible refine AWp.seq ?_) | (with_reducible refine AWp.block ?_))
  refine AWp.mix mixed [0, 1, 2, 3, 4, 5, 6, 7, 8] .done (by kernel_rfl) ?_; simp only [go_sem]
  repeat ((with_reducible refine an ?_ ?_); exact As)
  refine GCall.use (ai A) (fun _ => ⟨At, (hca).val.use ⟨rfl, rfl⟩⟩) ?_; simp only [go_sem]
  repeat ((with_reducible refine an ?_ ?_); exact As)
  repeat (first | ((with_reducible refine AWp.ofC ?_ ?_); exact rfl; simp only [go_sem]) | ((with_reducible refine an ?_ ?_); exact Au))
  refine ret_eq ?_; simp only [go_sem]
  rw [hsp]
 ·obtain ⟨a, b, rfl⟩ := len2 (l := l) (by omega)
  have h1 : ¬ k = 1 := by omega
  have h2 : ¬ k = 2 := by omega
  have h3 : ¬ k = 3 := by omega
  have h4 : ¬ k = 4 := by omega
  have h5 : ¬ k = 5 := by omega
  obtain ⟨c1, c2⟩ := hch a (by simp)
  obtain ⟨c3, c4⟩ := hch b (by simp)
  have hza := szL_mem (l := [a, b]) (x := a) (by simp)
  have hzb := szL_mem (l := [a, b]) (x := b) (by simp)
  have hca := ih a (by simp) (by omega) c1 c2 (hci (by simp) a (by simp)) (hos a (by simp)) (hls a (by simp))
  have hcc := ih b (by simp) (by omega) c3 c4 (hci (by simp) b (by simp)) (hos b (by simp)) (hls b (by simp))
  have hcba := hcb a (by simp) (by simp)
  have hcbb := hcb b (by simp) (by simp)
  simp only [List.map_cons, List.map_nil, valN] at hsp
  have hmw := fun h => mulW_eq (a := valF o a) (b := valF o b) h
  generalize valF o a = A at *
  generalize valF o b = B at *
  obtain ⟨ka, na, pa, qa, sa, la⟩ := a
  obtain ⟨kb, nb, pb, qb, sb, lb⟩ := b
  simp only [aPd_mk, List.map_cons, List.map_nil] at *
  refine PC.enter 106 [.tmp 6] [3, 5] Proofs.Tryz.func137 rfl rfl rfl rfl rfl (by simp) (AWp.of ?_); simp only [go_sem]
  by_cases h6 : k = 6
  ·rw [if_pos h6] at hsp
   repeat (first | ((with_reducible refine AWp.ofC ?_ ?_); exact rfl; simp only [go_sem, (eq_true h6), h1, h2, h3, h4, h5]) | ((with_reducible refine an ?_ ?_); exact Au))
   repeat (first | (with_reducible refine AWp.seq ?_) | (with_reducible refine AWp.block ?_))
   refine AWp.mix mixed [0, 1, 2, 3, 4, 5, 6, 7, 8, 9, 10, 11, 12, 13, 14, 15] .done (by kernel_rfl) ?_; simp only [go_sem]
   repeat ((with_reducible refine an ?_ ?_); exact As)
   refine GCall.use (ai A) (fun _ => ⟨At, (hca).val.use ⟨rfl, rfl⟩⟩) ?_; simp only [go_sem]
   repeat ((with_reducible refine an ?_ ?_); exact As)
   refine GCall.use (ai B) (fun _ => ⟨At, (hcc).val.use ⟨rfl, rfl⟩⟩) ?_; simp only [go_sem]
   repeat ((with_reducible refine an ?_ ?_); exact As)
   repeat (first | ((with_reducible refine AWp.ofC ?_ ?_); exact rfl; simp only [go_sem]) | ((with_reducible refine an ?_ ?_); exact Au))
   refine ret_eq ?_; simp only [go_sem]
   rw [hsp]
  by_cases h7 : k = 7
  ·rw [if_neg h6, if_pos h7] at hsp
   repeat (first | ((with_reducible refine AWp.ofC ?_ ?_); exact rfl; simp only [go_sem, (eq_true h7), h1, h2, h3, h4, h5, h6]) | ((with_reducible refine an ?_ ?_); exact Au))
   repeat (first | (with_reducible refine AWp.seq ?_) | (with_reducible refine AWp.block ?_))
   refine AWp.mix mixed [0, 1, 2, 3, 4, 5, 6, 7, 8, 9, 10, 11, 12, 13, 14, 15] .done (by kernel_rfl) ?_; simp only [go_sem]
   repeat ((with_reducible refine an ?_ ?_); exact As)
   refine GCall.use (ai A) (fun _ => ⟨At, (hca).val.use ⟨rfl, rfl⟩⟩) ?_; simp only [go_sem]
   repeat ((with_reducible refine an ?_ ?_); exact As)
   refine GCall.use (ai B) (fun _ => ⟨At, (hcc).val.use ⟨rfl, rfl⟩⟩) ?_; simp only [go_sem]
   repeat ((with_reducible refine an ?_ ?_); exact As)
   repeat (first | ((with_reducible refine AWp.ofC ?_ ?_); exact rfl; simp only [go_sem]) | ((with_reducible refine an ?_ ?_); exact Au))
   refine ret_eq ?_; simp only [go_sem]
   rw [hsp]
  rw [if_neg h6, if_neg h7] at hsp
  have hmw := hmw (by rw [← hsp]; unfold I64; omega)
  repeat (first | ((with_reducible refine AWp.ofC ?_ ?_); exact rfl; simp only [go_sem, h1, h2, h3, h4, h5, h6, h7]) | ((with_reducible refine an ?_ ?_); exact Au))
  refine AWp.seq ?_
  repeat (first | (with_reducible refine AWp.seq ?_) | (with_reducible refine AWp.block ?_))
  refine AWp.mix mixed [0, 1, 2, 3, 4, 5, 6, 7, 8, 9, 10, 11, 12, 13, 14, 15] .done (by kernel_rfl) ?_; simp only [go_sem]
  repeat ((with_reducible refine an ?_ ?_); exact As)
  refine GCall.use (ai A) (fun _ => ⟨At, (hca).val.use ⟨rfl, rfl⟩⟩) ?_; simp only [go_sem]
  repeat ((with_reducible refine an ?_ ?_); exact As)
  refine GCall.use (ai B) (fun _ => ⟨At, (hcc).val.use ⟨rfl, rfl⟩⟩) ?_; simp only [go_sem]
  repeat ((with_reducible refine an ?_ ?_); exact As)
  repeat (first | ((with_reducible refine AWp.ofC ?_ ?_); exact rfl; simp only [go_sem, hmw]) | ((with_reducible refine an ?_ ?_); exact Au))
  refine ret_eq ?_; simp only [go_sem]
  rw [hsp]
 ·omega
theorem ref29_Truth (ps : List Pr) (c : List Int) (o : Obs) (hcl : c.length ≤ 1000000) (t : Pd) : szF t ≤ 1000000 → okT ps t = true → 9 ≤ t.kind → fitB ps t = true → allB ntmB t = true → AllP (obsB ps o) t → AllP (leafR ps c o) t →
  PC Proofs.Tryz.prog 100 [aTr ps, aInts c, aPd t] (ab (truF o t)) := by
 induction t using Pd.ind with
 | _ k n p q s l ih =>
 intro hz ht hk hi htm hob hlf
 obtain ⟨o1, o2, o3, o4⟩ := okT_sub ht
 obtain ⟨hpl, _⟩ := loc_len o1
 simp only [Pd.kind] at hk
 obtain ⟨ht1, ht2⟩ := allB_sub htm
 have hnt : ¬ (18 ≤ k ∧ k ≤ 21) := by unfold ntmB tempB at ht1; simp at ht1; omega
 have hsz : szF (.mk k n p q s l) = szL l + 1 := by rw [szF]
 have hsp := truF_mk o k n p q s l
 have hfc := fit_child hi hk
 obtain ⟨_, hls⟩ := AllP_sub hlf
 obtain ⟨_, hos⟩ := AllP_sub hob
 generalize truF o (.mk k n p q s l) = R at *
 unfold truN at hsp
 by_cases h12 : k ≤ 12
 ·have hch := child_le ht h12
  obtain ⟨a, b, rfl⟩ := len2 (l := l) (by rcases parts_cases k with ⟨e, hc⟩ | ⟨e, hc⟩ | ⟨e, hc⟩ | e <;> omega)
  obtain ⟨c1, c2⟩ := hch a (by simp)
  obtain ⟨c3, c4⟩ := hch b (by simp)
  have hza := szL_mem (l := [a, b]) (x := a) (by simp)
  have hzb := szL_mem (l := [a, b]) (x := b) (by simp)
  have hca := ref29_Value ps c o hcl a (by omega) c1 c2 (fit_int (hfc a (by simp)) c2) (hos a (by simp)) (hls a (by simp))
  have hcc := ref29_Value ps c o hcl b (by omega) c3 c4 (fit_int (hfc b (by simp)) c4) (hos b (by simp)) (hls b (by simp))
  simp only [List.map_cons, List.map_nil, List.getD_cons_zero, List.getD_cons_succ] at hsp
  generalize valF o a = A at *
  generalize valF o b = B at *
  clear ih hlf hls hob hos htm ht2 hch hfc
  obtain ⟨ka, na, pa, qa, sa, la⟩ := a
  obtain ⟨kb, nb, pb, qb, sb, lb⟩ := b
  simp only [aPd_mk, List.map_cons, List.map_nil] at *
  refine PC.enter 125 [.tmp 6] [3, 5] Proofs.Tryz.func100 rfl rfl rfl rfl rfl (by simp) (AWp.of ?_); simp only [go_sem]
  by_cases h9 : k = 9
  ·rw [if_pos h9] at hsp
   repeat (first | ((with_reducible refine AWp.ofC ?_ ?_); exact rfl; simp only [go_sem, (eq_true h9)]) | ((with_reducible refine an ?_ ?_); exact Au))
   repeat (first | (with_reducible refine AWp.seq ?_) | (with_reducible refine AWp.block ?_))
   refine AWp.mix mixed [0, 1, 2, 3, 4, 5, 6, 7, 8, 9, 10, 11, 12, 13, 14, 15] .done (by kernel_rfl) ?_; simp only [go_sem]
   repeat ((with_reducible refine an ?_ ?_); exact As)
   refine GCall.use (ai A) (fun _ => ⟨At, (hca).val.use ⟨rfl, rfl⟩⟩) ?_; simp only [go_sem]
   repeat ((with_reducible refine an ?_ ?_); exact As)
   refine GCall.use (ai B) (fun _ => ⟨At, (hcc).val.use ⟨rfl, rfl⟩⟩) ?_; simp only [go_sem]
   repeat ((with_reducible refine an ?_ ?_); exact As)
   repeat (first | ((with_reducible refine AWp.ofC ?_ ?_); exact rfl; simp only [go_sem]) | ((with_reducible refine an ?_ ?_); exact Au))
   refine ret_eq ?_; simp only [go_sem]
   rw [hsp]
  by_cases h10 : k = 10
  ·rw [if_neg h9, if_pos h10] at hsp
   repeat (first | ((with_reducible refine AWp.ofC ?_ ?_); exact rfl; simp only [go_sem, (eq_true h10), h9]) | ((with_reducible refine an ?_ ?_); exact Au))
   repeat (first | (with_reducible refine AWp.seq ?_) | (with_reducible refine AWp.block ?_))
   refine AWp.mix mixed [0, 1, 2, 3, 4, 5, 6, 7, 8, 9, 10, 11, 12, 13, 14, 15] .done (by kernel_rfl) ?_; simp only [go_sem]
   repeat ((with_reducible refine an ?_ ?_); exact As)
   refine GCall.use (ai A) (fun _ => ⟨At, (hca).val.use ⟨rfl, rfl⟩⟩) ?_; simp only [go_sem]
   repeat ((with_reducible refine an ?_ ?_); exact As)
   refine GCall.use (ai B) (fun _ => ⟨At, (hcc).val.use ⟨rfl, rfl⟩⟩) ?_; simp only [go_sem]
   repeat ((with_reducible refine an ?_ ?_); exact As)
   repeat (first | ((with_reducible refine AWp.ofC ?_ ?_); exact rfl; simp only [go_sem]) | ((with_reducible refine an ?_ ?_); exact Au))
   refine ret_eq ?_; simp only [go_sem]
   rw [hsp]
  by_cases h11 : k = 11
  ·rw [if_neg h9, if_neg h10, if_pos h11] at hsp
   repeat (first | ((with_reducible refine AWp.ofC ?_ ?_); exact rfl; simp only [go_sem, (eq_true h11), h9, h10]) | ((with_reducible refine an ?_ ?_); exact Au))
   repeat (first | (with_reducible refine AWp.seq ?_) | (with_reducible refine AWp.block ?_))
   refine AWp.mix mixed [0, 1, 2, 3, 4, 5, 6, 7, 8, 9, 10, 11, 12, 13, 14, 15] .done (by kernel_rfl) ?_; simp only [go_sem]
   repeat ((with_reducible refine an ?_ ?_); exact As)
   refine GCall.use (ai A) (fun _ => ⟨At, (hca).val.use ⟨rfl, rfl⟩⟩) ?_; simp only [go_sem]
   repeat ((with_reducible refine an ?_ ?_); exact As)
   refine GCall.use (ai B) (fun _ => ⟨At, (hcc).val.use ⟨rfl, rfl⟩⟩) ?_; simp only [go_sem]
   repeat ((with_reducible refine an ?_ ?_); exact As)
   repeat (first | ((with_reducible refine AWp.ofC ?_ ?_); exact rfl; simp only [go_sem]) | ((with_reducible refine an ?_ ?_); exact Au))
   refine ret_eq ?_; simp only [go_sem]
   rw [hsp]
  have h12 : k = 12 := by omega
  rw [if_neg h9, if_neg h10, if_neg h11, if_pos h12] at hsp
  repeat (first | ((with_reducible refine AWp.ofC ?_ ?_); exact rfl; simp only [go_sem, (eq_true h12), h9, h10, h11]) | ((with_reducible refine an ?_ ?_); exact Au))
  repeat (first | (with_reducible refine AWp.seq ?_) | (with_reducible refine AWp.block ?_))
  refine AWp.mix mixed [0, 1, 2, 3, 4, 5, 6, 7, 8, 9, 10, 11, 12, 13, 14, 15] .done (by kernel_rfl) ?_; simp only [go_sem]
  repeat ((with_reducible refine an ?_ ?_); exact As)
  refine GCall.use (ai A) (fun _ => ⟨At, (hca).val.use ⟨rfl, rfl⟩⟩) ?_; simp only [go_sem]
  repeat ((with_reducible refine an ?_ ?_); exact As)
  refine GCall.use (ai B) (fun _ => ⟨At, (hcc).val.use ⟨rfl, rfl⟩⟩) ?_; simp only [go_sem]
  repeat ((with_reducible refine an ?_ ?_); exact As)
  repeat (first | ((with_reducible refine AWp.ofC ?_ ?_); exact rfl; simp only [go_sem]) | ((with_reducible refine an ?_ ?_); exact Au))
  refine ret_eq ?_; simp only [go_sem]
  rw [hsp]
 have h9 : ¬ k = 9 := by omega
 have h10 : ¬ k = 10 := by omega
 have h11 : ¬ k = 11 := by omega
 have h12 : ¬ k = 12 := by omega
 rw [if_neg h9, if_neg h10, if_neg h11, if_neg h12] at hsp
 have hch := child_bool ht (by omega)
 rcases parts_cases k with ⟨e, hc⟩ | ⟨e, hc⟩ | ⟨e, hc⟩ | e
 ·obtain rfl := len0 (l := l) (by omega)
  simp only [aPd_mk, List.map_nil] at *
  refine PC.enter 125 [.tmp 6] [3, 5] Proofs.Tryz.func100 rfl rfl rfl rfl rfl (by simp) (AWp.of ?_); simp only [go_sem]
  by_cases h13 : k = 13
  ·rw [if_pos h13] at hsp
   repeat (first | ((with_reducible refine AWp.ofC ?_ ?_); exact rfl; simp only [go_sem, (eq_true h13), h9, h10, h11, h12]) | ((with_reducible refine an ?_ ?_); exact Au))
   refine ret_eq ?_; simp only [go_sem]
   rw [hsp]
  ·have h14 : k = 14 := by omega
   rw [if_neg h13, if_pos h14] at hsp
   have h15 : ¬ k = 15 := by omega
   have h16 : ¬ k = 16 := by omega
   have h17 : ¬ k = 17 := by omega
   repeat (first | ((with_reducible refine AWp.ofC ?_ ?_); exact rfl; simp only [go_sem, h9, h10, h11, h12, h13, h15, h16, h17]) | ((with_reducible refine an ?_ ?_); exact Au))
   refine ret_eq ?_; simp only [go_sem]
   rw [hsp]
 ·obtain ⟨a, rfl⟩ := len1 (l := l) (by omega)
  have h13 : ¬ k = 13 := by omega
  have h14 : ¬ k = 14 := by omega
  have h15 : k = 15 := by omega
  obtain ⟨c1, c2⟩ := hch a (by simp)
  have hza := szL_mem (l := [a]) (x := a) (by simp)
  have hca := ih a (by simp) (by omega) c1 c2 (hfc a (by simp)) (ht2 a (by simp)) (hos a (by simp)) (hls a (by simp))
  simp only [List.map_cons, List.map_nil, List.getD_cons_zero, if_neg h13, if_neg h14, if_pos h15] at hsp
  generalize truF o a = A at *
  clear ih hlf hls hob hos htm ht2 hch hfc
  obtain ⟨ka, na, pa, qa, sa, la⟩ := a
  simp only [aPd_mk, List.map_cons, List.map_nil] at *
  refine PC.enter 125 [.tmp 6] [3, 5] Proofs.Tryz.func100 rfl rfl rfl rfl rfl (by simp) (AWp.of ?_); simp only [go_sem]
  repeat (first | ((with_reducible refine AWp.ofC ?_ ?_); exact rfl; simp only [go_sem, (eq_true h15), h9, h10, h11, h12, h13]) | ((with_reducible refine an ?_ ?_); exact Au))
  repeat (first | (with_reducible refine AWp.seq ?_) | (with_reducible refine AWp.block ?_))
  refine AWp.mix mixed [0, 1, 2, 3, 4, 5, 6, 7, 8] .done (by kernel_rfl) ?_; simp only [go_sem]
  repeat ((with_reducible refine an ?_ ?_); exact As)
  refine GCall.use (ab A) (fun _ => ⟨At, (hca).val.use ⟨rfl, rfl⟩⟩) ?_; simp only [go_sem]
  repeat ((with_reducible refine an ?_ ?_); exact As)
  repeat (first | ((with_reducible refine AWp.ofC ?_ ?_); exact rfl; simp only [go_sem]) | ((with_reducible refine an ?_ ?_); exact Au))
  refine ret_eq ?_; simp only [go_sem]
  rw [hsp]
 ·obtain ⟨a, b, rfl⟩ := len2 (l := l) (by omega)
  have h13 : ¬ k = 13 := by omega
  have h14 : ¬ k = 14 := by omega
  have h15 : ¬ k = 15 := by omega
  obtain ⟨c1, c2⟩ := hch a (by simp)
  obtain ⟨c3, c4⟩ := hch b (by simp)
  have hza := szL_mem (l := [a, b]) (x := a) (by simp)
  have hzb := szL_mem (l := [a, b]) (x := b) (by simp)
  have hca := ih a (by simp) (by omega) c1 c2 (hfc a (by simp)) (ht2 a (by simp)) (hos a (by simp)) (hls a (by simp))
  have hcc := ih b (by simp) (by omega) c3 c4 (hfc b (by simp)) (ht2 b (by simp)) (hos b (by simp)) (hls b (by simp))
  simp only [List.map_cons, List.map_nil, List.getD_cons_zero, List.getD_cons_succ, if_neg h13, if_neg h14, if_neg h15] at hsp
  generalize truF o a = A at *
  generalize truF o b = B at *
  clear ih hlf hls hob hos htm ht2 hch hfc
  obtain ⟨ka, na, pa, qa, sa, la⟩ := a
  obtain ⟨kb, nb, pb, qb, sb, lb⟩ := b
  simp only [aPd_mk, List.map_cons, List.map_nil] at *
  refine PC.enter 125 [.tmp 6] [3, 5] Proofs.Tryz.func100 rfl rfl rfl rfl rfl (by simp) (AWp.of ?_); simp only [go_sem]
  by_cases h16 : k = 16
  ·rw [if_pos h16] at hsp
   repeat (first | ((with_reducible refine AWp.ofC ?_ ?_); exact rfl; simp only [go_sem, (eq_true h16), h9, h10, h11, h12, h13, h15]) | ((with_reducible refine an ?_ ?_); exact Au))
   repeat (first | (with_reducible refine AWp.seq ?_) | (with_reducible refine AWp.block ?_))
   refine AWp.mix mixed [0, 1, 2, 3, 4, 5, 6, 7, 8, 9, 10, 11, 12, 13, 14, 15, 16] .done (by kernel_rfl) ?_; simp only [go_sem]
   repeat ((with_reducible refine an ?_ ?_); exact As)
   refine GCall.use (ab A) (fun _ => ⟨At, (hca).val.use ⟨rfl, rfl⟩⟩) ?_; simp only [go_sem]
   repeat ((with_reducible refine an ?_ ?_); exact As)
   refine GCall.use (ab B) (fun _ => ⟨At, (hcc).val.use ⟨rfl, rfl⟩⟩) ?_; simp only [go_sem]
   repeat ((with_reducible refine an ?_ ?_); exact As)
   repeat (first | ((with_reducible refine AWp.ofC ?_ ?_); exact rfl; simp only [go_sem]) | ((with_reducible refine an ?_ ?_); exact Au))
   refine ret_eq ?_; simp only [go_sem]
   rw [hsp]
  ·rw [if_neg h16] at hsp
   have h17 : k = 17 := by omega
   repeat (first | ((with_reducible refine AWp.ofC ?_ ?_); exact rfl; simp only [go_sem, (eq_true h17), h9, h10, h11, h12, h13, h15, h16]) | ((with_reducible refine an ?_ ?_); exact Au))
   repeat (first | (with_reducible refine AWp.seq ?_) | (with_reducible refine AWp.block ?_))
   refine AWp.mix mixed [0, 1, 2, 3, 4, 5, 6, 7, 8, 9, 10, 11, 12, 13, 14, 15, 16] .done (by kernel_rfl) ?_; simp only [go_sem]
   repeat ((with_reducible refine an ?_ ?_); exact As)
   refine GCall.use (ab A) (fun _ => ⟨At, (hca).val.use ⟨rfl, rfl⟩⟩) ?_; simp only [go_sem]
   repeat ((with_reducible refine an ?_ ?_); exact As)
   refine GCall.use (ab B) (fun _ => ⟨At, (hcc).val.use ⟨rfl, rfl⟩⟩) ?_; simp only [go_sem]
   repeat ((with_reducible refine an ?_ ?_); exact As)
   repeat (first | ((with_reducible refine AWp.ofC ?_ ?_); exact rfl; simp only [go_sem]) | ((with_reducible refine an ?_ ?_); exact Au))
   refine ret_eq ?_; simp only [go_sem]
   rw [hsp]
 ·omega
end Go.AL
end
section
namespace Go.AL
open Go Go.RowKit
set_option maxRecDepth 4000
theorem lcl_mk (pr k n p q : Int) (s : ByteArray) (l : List Pd) : lclB pr (.mk k n p q s l) = if k = 4 ∨ (18 ≤ k ∧ k ≤ 21) then false else if k = 2 ∨ k = 3 then decide (p = pr) else true := rfl
theorem evaluate_local (pr : Int) (t : Pd) : szF t ≤ 1000000 → allB locB t = true → PC Proofs.Tryz.prog 126 [ai pr, aPd t] (ab (allB (lclB pr) t)) := by
 induction t using Pd.ind with
 | _ k n p q s l ih =>
 intro hz ht
 have hsz : szF (.mk k n p q s l) = szL l + 1 := by rw [szF]
 have hll := szL_len l
 obtain ⟨ht1, ht2⟩ := allB_sub ht
 obtain ⟨hpl, _⟩ := loc_len ht1
 have hsp : allB (lclB pr) (.mk k n p q s l) = ((if k = 4 ∨ (18 ≤ k ∧ k ≤ 21) then false else if k = 2 ∨ k = 3 then decide (p = pr) else true) && l.all (allB (lclB pr))) := by rw [allB_mk, lcl_mk]
 have h1 : ∀ x ∈ l, PV Proofs.Tryz.prog (.clo 168 [.rp 1 [ai pr] 0 0]) [aPd x] (ab (!allB (lclB pr) x)) := by
  intro x hx
  have hxi := szL_mem hx
  have hch := ih x hx (by omega) (ht2 x hx)
  generalize allB (lclB pr) x = b at *
  obtain ⟨k2, n2, p2, q2, s2, l2⟩ := x
  refine PC.clo ?_
  simp only [aPd_mk] at *
  refine PC.enter 8 [.tmp 3] [2] Proofs.Tryz.func168 rfl rfl rfl rfl rfl (by simp) (AWp.of ?_); simp only [go_sem]
  repeat (first | ((with_reducible refine AWp.ofC ?_ ?_); exact rfl; simp only [go_sem]) | ((with_reducible refine an ?_ ?_); exact Au))
  repeat ((with_reducible refine an ?_ ?_); exact As)
  refine (hch).val.use ?_; simp only [go_sem]
  repeat (first | ((with_reducible refine AWp.ofC ?_ ?_); exact rfl; simp only [go_sem]) | ((with_reducible refine an ?_ ?_); exact Au))
  refine ret_eq ?_; simp only [go_sem]
 have hc := preds_containsFunc l (by omega) _ rfl (fun x => !allB (lclB pr) x) h1
 have hall : l.all (allB (lclB pr)) = !l.any fun x => !allB (lclB pr) x := by rw [List.all_eq_not_any_not]
 rw [hall] at hsp
 clear h1 ih
 by_cases c1 : k = 4 ∨ k = 18 ∨ k = 19 ∨ k = 20 ∨ k = 21
 ·rw [if_pos (by omega), Bool.false_and] at hsp
  rw [hsp]
  clear hsp hall hc
  simp only [aPd_mk] at *
  rcases c1 with rfl | rfl | rfl | rfl | rfl
  all_goals refine PC.enter 25 [.tmp 4] [2, 3] Proofs.Tryz.func126 rfl rfl rfl rfl rfl (by simp) (AWp.of ?_); simp only [go_sem]
  all_goals repeat (first | ((with_reducible refine AWp.ofC ?_ ?_); exact rfl; simp only [go_sem, Int.reduceEq]) | ((with_reducible refine an ?_ ?_); exact Au))
  all_goals refine ret_eq ?_; simp only [go_sem]
 rw [if_neg (by omega)] at hsp
 by_cases c2 : k = 2 ∨ k = 3
 ·have hl0 : l = [] := by
   have : partsF k = 0 := by rcases c2 with rfl | rfl <;> rfl
   exact len0 (by omega)
  subst hl0
  rw [if_pos c2] at hsp
  simp only [List.any_nil, Bool.not_false, Bool.and_true] at hsp
  rw [hsp]
  clear hsp hall hc
  simp only [aPd_mk] at *
  rcases c2 with rfl | rfl
  all_goals refine PC.enter 25 [.tmp 4] [2, 3] Proofs.Tryz.func126 rfl rfl rfl rfl rfl (by simp) (AWp.of ?_); simp only [go_sem]
  all_goals repeat (first | ((with_reducible refine AWp.ofC ?_ ?_); exact rfl; simp only [go_sem, Int.reduceEq]) | ((with_reducible refine an ?_ ?_); exact Au))
  all_goals refine ret_eq ?_; simp only [go_sem]
 rw [if_neg c2, Bool.true_and] at hsp
 rw [hsp]
 generalize (l.any fun x => !allB (lclB pr) x) = b at *
 clear hsp hall
 have a4 : ¬ k = 4 := by omega
 have a18 : ¬ k = 18 := by omega
 have a19 : ¬ k = 19 := by omega
 have a20 : ¬ k = 20 := by omega
 have a21 : ¬ k = 21 := by omega
 have a2 : ¬ k = 2 := by omega
 have a3 : ¬ k = 3 := by omega
 simp only [aPd_mk] at *
 refine PC.enter 25 [.tmp 4] [2, 3] Proofs.Tryz.func126 rfl rfl rfl rfl rfl (by simp) (AWp.of ?_); simp only [go_sem]
 repeat (first | ((with_reducible refine AWp.ofC ?_ ?_); exact rfl; simp only [go_sem, a2, a3, a4, a18, a19, a20, a21]) | ((with_reducible refine an ?_ ?_); exact Au))
 repeat ((with_reducible refine an ?_ ?_); exact As)
 refine (hc).val.use ?_; simp only [go_sem]
 repeat (first | ((with_reducible refine AWp.ofC ?_ ?_); exact rfl; simp only [go_sem]) | ((with_reducible refine an ?_ ?_); exact Au))
 refine ret_eq ?_; simp only [go_sem]
theorem evaluate_check (ps : List Pr) (hs : Sm ps) (pr k : Int) (t : Pd) (hz : szF t ≤ 1000000) : PC Proofs.Tryz.prog 94 [aTr ps, ai pr, ai k, aPd t] (ai (lclF ps pr k t)) := by
 have h1 := predtype_Check ps hs t hz
 have h2 := fun a b => evaluate_typed t hz a b 2
 have h3 := fun a => evaluate_local pr t hz a
 have hl := hs.procs
 have hel := fun x hx => hs.evs x hx
 have hck : checkF ps t = 0 → formedB t = true ∧ typedB t = true ∧ allB locB t = true := fun h => by
  obtain ⟨_, f2, f3, _⟩ := checkF_zero h
  unfold okT at f3
  simp only [Bool.and_eq_true] at f3
  exact ⟨f2, f3.2, f3.1.1⟩
 have hn1 : checkF ps t = 0 → 1 ≤ ps.length := fun h => (valid_len (checkF_zero h).1).1
 have hE : lclF ps pr k t = if checkF ps t ≠ 0 then checkF ps t else if ¬ (0 ≤ pr ∧ pr < ps.length ∧ 0 ≤ k ∧ k ≤ evN ps pr) then 2 else if t.kind ≤ 8 then 14 else if allB (lclB pr) t = false then 15 else 0 := rfl
 have hr : resF t.kind = 2 ↔ ¬ t.kind ≤ 8 := by unfold resF; split <;> omega
 generalize lclF ps pr k t = E at *
 generalize checkF ps t = e at *
 generalize formedB t = f at *
 generalize typedB t = y at *
 generalize allB locB t = lb at *
 generalize allB (lclB pr) t = a at *
 generalize t.kind = kd at *
 obtain ⟨k0, n, p, q, s, l⟩ := t
 simp only [aPd_mk] at *
 by_cases he : e = 0
 ·subst he
  rw [if_neg (by decide)] at hE
  obtain ⟨c1, c2, c3⟩ := hck rfl
  have hn1 := hn1 rfl
  have h2 := h2 c1 c2
  have h3 := h3 c3
  by_cases hp : 0 ≤ pr ∧ pr < ps.length
  ·obtain ⟨i, rfl⟩ : ∃ i : Nat, pr = i := ⟨pr.toNat, by omega⟩
   have hpi : i < ps.length := by omega
   have hgp := getD_map (f := aPr) hpi
   rw [evN_get hpi] at hE
   have n1 : ¬ (i : Int) < 0 := by omega
   have n2 : ¬ (ps.length : Int) ≤ i := by omega
   by_cases hk : 0 ≤ k ∧ k ≤ ps[i].evs.length
   ·rw [if_neg (by omega)] at hE
    have n3 : ¬ k < 0 := by omega
    have n4 : ¬ (ps[i].evs.length : Int) < k := by omega
    by_cases hk8 : kd ≤ 8
    ·rw [if_pos hk8] at hE
     rw [if_neg (fun h => hr.1 h hk8)] at h2
     refine PC.enter 50 [.tmp 8] [4, 7] Proofs.Tryz.func94 rfl rfl rfl rfl rfl (by simp) (AWp.of ?_); simp only [go_sem]
     repeat (first | ((with_reducible refine AWp.ofC ?_ ?_); exact rfl; simp only [go_sem]) | ((with_reducible refine an ?_ ?_); exact Au))
     repeat ((with_reducible refine an ?_ ?_); exact As)
     refine (h1).val.use ?_; simp only [go_sem]
     repeat (first | ((with_reducible refine AWp.ofC ?_ ?_); exact rfl; simp only [go_sem, n1, n2, n3, n4, hgp]) | ((with_reducible refine an ?_ ?_); exact Au))
     repeat ((with_reducible refine an ?_ ?_); exact As)
     refine (h2).val.use ?_; simp only [go_sem]
     repeat (first | ((with_reducible refine AWp.ofC ?_ ?_); exact rfl; simp only [go_sem, Int.reduceEq]) | ((with_reducible refine an ?_ ?_); exact Au))
     refine ret_eq ?_; simp only [go_sem]
     rw [hE]
    rw [if_neg hk8] at hE
    rw [if_pos (hr.2 hk8)] at h2
    refine PC.enter 50 [.tmp 8] [4, 7] Proofs.Tryz.func94 rfl rfl rfl rfl rfl (by simp) (AWp.of ?_); simp only [go_sem]
    repeat (first | ((with_reducible refine AWp.ofC ?_ ?_); exact rfl; simp only [go_sem]) | ((with_reducible refine an ?_ ?_); exact Au))
    repeat ((with_reducible refine an ?_ ?_); exact As)
    refine (h1).val.use ?_; simp only [go_sem]
    repeat (first | ((with_reducible refine AWp.ofC ?_ ?_); exact rfl; simp only [go_sem, n1, n2, n3, n4, hgp]) | ((with_reducible refine an ?_ ?_); exact Au))
    repeat ((with_reducible refine an ?_ ?_); exact As)
    refine (h2).val.use ?_; simp only [go_sem]
    repeat (first | ((with_reducible refine AWp.ofC ?_ ?_); exact rfl; simp only [go_sem]) | ((with_reducible refine an ?_ ?_); exact Au))
    repeat ((with_reducible refine an ?_ ?_); exact As)
    refine (h3).val.use ?_; simp only [go_sem]
    repeat (first | ((with_reducible refine AWp.ofC ?_ ?_); exact rfl; simp only [go_sem]) | ((with_reducible refine an ?_ ?_); exact Au))
    refine ⟨fun h5 => ?_, fun h5 => ?_⟩
    ·rw [if_pos h5] at hE
     repeat (first | ((with_reducible refine AWp.ofC ?_ ?_); exact rfl; simp only [go_sem]) | ((with_reducible refine an ?_ ?_); exact Au))
     refine ret_eq ?_; simp only [go_sem]
     rw [hE]
    ·rw [if_neg (by rw [h5]; decide)] at hE
     repeat (first | ((with_reducible refine AWp.ofC ?_ ?_); exact rfl; simp only [go_sem]) | ((with_reducible refine an ?_ ?_); exact Au))
     refine ret_eq ?_; simp only [go_sem]
     rw [hE]
   ·rw [if_pos (by omega)] at hE
    refine PC.enter 50 [.tmp 8] [4, 7] Proofs.Tryz.func94 rfl rfl rfl rfl rfl (by simp) (AWp.of ?_); simp only [go_sem]
    repeat (first | ((with_reducible refine AWp.ofC ?_ ?_); exact rfl; simp only [go_sem]) | ((with_reducible refine an ?_ ?_); exact Au))
    repeat ((with_reducible refine an ?_ ?_); exact As)
    refine (h1).val.use ?_; simp only [go_sem]
    repeat (first | ((with_reducible refine AWp.ofC ?_ ?_); exact rfl; simp only [go_sem, n1, n2, hgp]) | ((with_reducible refine an ?_ ?_); exact Au))
    refine ⟨fun h5 => ?_, fun h5 => ?_⟩
    ·repeat (first | ((with_reducible refine AWp.ofC ?_ ?_); exact rfl; simp only [go_sem]) | ((with_reducible refine an ?_ ?_); exact Au))
     refine ret_eq ?_; simp only [go_sem]
     rw [hE]
    ·intros; omega
  ·rw [if_pos (by omega)] at hE
   by_cases hp0 : pr < 0
   ·have hgx : (ps.map aPr).getD pr.toNat .any = aPr (ps[0]'(by omega)) := by
     rw [show pr.toNat = 0 by omega]; exact getD_map (by omega)
    refine PC.enter 50 [.tmp 8] [4, 7] Proofs.Tryz.func94 rfl rfl rfl rfl rfl (by simp) (AWp.of ?_); simp only [go_sem]
    repeat (first | ((with_reducible refine AWp.ofC ?_ ?_); exact rfl; simp only [go_sem]) | ((with_reducible refine an ?_ ?_); exact Au))
    repeat ((with_reducible refine an ?_ ?_); exact As)
    refine (h1).val.use ?_; simp only [go_sem]
    repeat (first | ((with_reducible refine AWp.ofC ?_ ?_); exact rfl; simp only [go_sem, hp0, hgx]) | ((with_reducible refine an ?_ ?_); exact Au))
    refine ret_eq ?_; simp only [go_sem]
    rw [hE]
   ·have hp1 : (ps.length : Int) ≤ pr := by omega
    have hgx : (ps.map aPr).getD pr.toNat .any = .any := by
     rw [List.getD_eq_getElem?_getD, List.getElem?_eq_none (by rw [List.length_map]; omega)]; rfl
    refine PC.enter 50 [.tmp 8] [4, 7] Proofs.Tryz.func94 rfl rfl rfl rfl rfl (by simp) (AWp.of ?_); simp only [go_sem]
    repeat (first | ((with_reducible refine AWp.ofC ?_ ?_); exact rfl; simp only [go_sem]) | ((with_reducible refine an ?_ ?_); exact Au))
    repeat ((with_reducible refine an ?_ ?_); exact As)
    refine (h1).val.use ?_; simp only [go_sem]
    repeat (first | ((with_reducible refine AWp.ofC ?_ ?_); exact rfl; simp only [go_sem, hp0, hp1, hgx, List.getD_nil]) | ((with_reducible refine an ?_ ?_); exact Au))
    refine ret_eq ?_; simp only [go_sem]
    rw [hE]
 ·rw [if_pos he] at hE
  refine PC.enter 50 [.tmp 8] [4, 7] Proofs.Tryz.func94 rfl rfl rfl rfl rfl (by simp) (AWp.of ?_); simp only [go_sem]
  repeat (first | ((with_reducible refine AWp.ofC ?_ ?_); exact rfl; simp only [go_sem]) | ((with_reducible refine an ?_ ?_); exact Au))
  repeat ((with_reducible refine an ?_ ?_); exact As)
  refine (h1).val.use ?_; simp only [go_sem]
  repeat (first | ((with_reducible refine AWp.ofC ?_ ?_); exact rfl; simp only [go_sem, he]) | ((with_reducible refine an ?_ ?_); exact Au))
  refine ret_eq ?_; simp only [go_sem]
  rw [hE]
noncomputable def treeF (ps : List Pr) (t : Pd) (w : Int) : Int := if checkF ps t ≠ 0 then checkF ps t else if resF t.kind ≠ w then 14 else 0
end Go.AL
end
section
namespace Go.AL
open Go Go.RowKit
set_option maxRecDepth 4000
theorem stC_len (n p : Nat) (k : Int) : (stC n p k).length = n := by unfold stC; rw [List.length_set, List.length_replicate]
theorem stC_get {n p : Nat} {k : Int} (hp : p < n) : (stC n p k).getD p 0 = k := by
 unfold stC; rw [List.getD_eq_getElem?_getD, List.getElem?_set_self (by simpa using hp)]; rfl
theorem stC_get? {n p : Nat} {k : Int} (hp : p < n) : (stC n p k)[p]? = some k := by
 unfold stC; rw [List.getElem?_set_self (by simpa using hp)]
def stV (n p : Nat) (st : List Int) : List (List Int) := (List.replicate n []).set p st
theorem stV_len (n p : Nat) (st : List Int) : (stV n p st).length = n := by unfold stV; rw [List.length_set, List.length_replicate]
theorem stV_get {n p : Nat} {st : List Int} (hp : p < (stV n p st).length) : (stV n p st)[p] = st := by simp [stV]
theorem st_leaf (ps : List Pr) (hs : Sm ps) (hv : validF ps = true) (p k : Nat) (hp : p < ps.length) (hk : k ≤ ps[p].evs.length) (t : Pd) (hr : allB (resB ps) t = true) (hn : allB (lclB p) t = true) :
  AllP (leafOk ps (stC ps.length p k) (stV ps.length p (stateAt ps[p] k)) (stO ps p k)) t ∧ AllP (obsB ps (stO ps p k)) t ∧ AllP (leafR ps (stC ps.length p k) (stO ps p k)) t := by
 have hb := allB_and t hr hn
 have hvar : ∀ s, (stO ps p k).var p s = (stateAt ps[p] k).getD (varIx ps[p].vars s).toNat 0 := fun s => by
  unfold stO cutO; simp only [Int.toNat_natCast, List.getElem?_eq_getElem hp, stC_get hp]
 have hcnt : (stO ps p k).cnt p = k := by
  unfold stO cutO; simp only [Int.toNat_natCast, stC_get hp]
 have hx : ∀ x : Pd, andB (resB ps) (lclB p) x = true → ∀ kk n pr q s l, x = .mk kk n pr q s l → ((kk = 2 ∨ kk = 3) → pr = p) ∧ kk ≠ 4 ∧ (kk = 2 → knownB ps pr s = true) := fun x h kk n pr q s l e => by
  subst e
  unfold andB at h
  rw [Bool.and_eq_true] at h
  have h2 := h.2
  rw [lcl_mk] at h2
  have n4 : ¬ (kk = 4 ∨ (18 ≤ kk ∧ kk ≤ 21)) := fun h => by rw [if_pos h] at h2; cases h2
  rw [if_neg n4] at h2
  refine ⟨fun e => ?_, by omega, fun e => ((res_leaf h.1).1 e).2⟩
  rw [if_pos e] at h2
  simpa using h2
 refine ⟨AllP_of_allB (fun x h => ?_) t hb, AllP_of_allB (fun x h => ?_) t hb, AllP_of_allB (fun x h => ?_) t hb⟩
 ·obtain ⟨kk, n, pr, q, s, l⟩ := x
  obtain ⟨g1, g2, g3⟩ := hx _ h _ _ _ _ _ _ rfl
  refine ⟨fun e => ?_, fun e => ?_, fun e => absurd e g2⟩
  ·obtain rfl := g1 (.inl e)
   have hV : p < (stV ps.length p (stateAt ps[p] k)).length := by rw [stV_len]; exact hp
   have h := view_variable ps hs (stC ps.length p k) (stV ps.length p (stateAt ps[p] k)) kk n p q s l hp (g3 e) hV (by rw [stV_get hV, stateAt_length])
   rw [stV_get hV] at h
   rw [hvar]; exact h
  ·obtain rfl := g1 (.inr e)
   exact ⟨by omega, by rw [hcnt, Int.toNat_natCast, stC_get? hp]⟩
 ·obtain ⟨kk, n, pr, q, s, l⟩ := x
  obtain ⟨g1, g2, g3⟩ := hx _ h _ _ _ _ _ _ rfl
  refine ⟨fun e => ?_, fun e => ?_, fun e => absurd e g2⟩
  ·obtain rfl := g1 (.inl e)
   have hm := valsF_mem ps[p] (varIx ps[p].vars s).toNat (k := k) hk
   rw [hvar]
   unfold varLo varHi
   simp only [Int.toNat_natCast, List.getElem?_eq_getElem hp]
   exact ⟨minL_le hm, le_maxL hm⟩
  ·obtain rfl := g1 (.inr e)
   rw [hcnt, evN_get hp]
   exact ⟨by omega, by omega⟩
 ·obtain ⟨kk, n, pr, q, s, l⟩ := x
  obtain ⟨g1, g2, g3⟩ := hx _ h _ _ _ _ _ _ rfl
  refine ⟨fun e => ?_, fun e => ?_, g2⟩
  ·obtain rfl := g1 (.inl e)
   have hpb : isPB ps.length p = true := by unfold isPB; simp; omega
   have h1 := ref25_Index ps hs p hpb s
   rw [varX_get hp] at h1
   obtain ⟨i, hi, hil⟩ := known_ix (known_get hp (g3 e))
   have h2 := ref25_Value ps hs p hp i hil k hk (asg_of_valid hv p hp) (dis_of_valid hv p hp)
   rw [hi] at h1
   refine ⟨_, _, h1, ?_, by omega, by rw [Int.toNat_natCast, stC_get? hp]⟩
   rw [hvar, hi, Int.toNat_natCast, List.getD_eq_getElem?_getD, List.getElem?_eq_getElem (by rw [stateAt_length]; exact hil)]
   exact h2
  ·obtain rfl := g1 (.inr e)
   exact ⟨by omega, by rw [hcnt, Int.toNat_natCast, stC_get? hp]⟩
theorem variable_State (ps : List Pr) (hs : Sm ps) (hv : validF ps = true) (p k : Nat) (hp : p < ps.length) (hk : k ≤ ps[p].evs.length) : PC Proofs.Tryz.prog 127 [aTr ps, ai p, ai k] (.tup [aInts (stateAt ps[p] k), ai 0]) := by
 have hm := List.getElem_mem hp
 have h1 := trace_Valid ps hs
 rw [hv] at h1
 have h2 := variable_state ps[p] (hs.vars _ hm) (hs.evs _ hm) (hs.asg _ hm) (asg_of_valid hv p hp) k hk
 have hl := hs.procs
 have hel := hs.evs _ hm
 have hgp := getD_map (f := aPr) hp
 have n1 : ¬ (p : Int) < 0 := by omega
 have n2 : ¬ (ps.length : Int) ≤ p := by omega
 have n3 : ¬ (k : Int) < 0 := by omega
 have n4 : ¬ (ps[p].evs.length : Int) < k := by omega
 generalize stateAt ps[p] k = S at *
 refine PC.enter 44 [.tmp 6, .tmp 7] [3] Proofs.Tryz.func127 rfl rfl rfl rfl rfl (by simp) (AWp.of ?_); simp only [go_sem]
 repeat (first | ((with_reducible refine AWp.ofC ?_ ?_); exact rfl; simp only [go_sem]) | ((with_reducible refine an ?_ ?_); exact Au))
 repeat ((with_reducible refine an ?_ ?_); exact As)
 refine (h1).val.use ?_; simp only [go_sem]
 repeat (first | ((with_reducible refine AWp.ofC ?_ ?_); exact rfl; simp only [go_sem, n1, n2, n3, n4, hgp]) | ((with_reducible refine an ?_ ?_); exact Au))
 repeat ((with_reducible refine an ?_ ?_); exact As)
 refine (h2).val.use ?_; simp only [go_sem]
 repeat (first | ((with_reducible refine AWp.ofC ?_ ?_); exact rfl; simp only [go_sem]) | ((with_reducible refine an ?_ ?_); exact Au))
 refine ret_eq ?_; simp only [go_sem]
theorem lcl_ntm {p : Int} (t : Pd) : allB (lclB p) t = true → allB ntmB t = true := by
 induction t using Pd.ind with
 | _ k n pr q s l ih =>
 intro h
 obtain ⟨h1, h2⟩ := allB_sub h
 rw [allB_mk, Bool.and_eq_true, List.all_eq_true]
 refine ⟨?_, fun x hx => ih x hx (h2 x hx)⟩
 rw [lcl_mk] at h1
 unfold ntmB tempB
 split at h1
 ·cases h1
 ·rename_i h; simp; omega
theorem lcl_ok {ps : List Pr} {p : Nat} {k : Int} {t : Pd} (h : lclF ps p k t = 0) : checkF ps t = 0 ∧ p < ps.length ∧ 0 ≤ k ∧ k ≤ evN ps p ∧ 9 ≤ t.kind ∧ allB (lclB p) t = true := by
 unfold lclF at h
 split at h
 ·rename_i h1; exact absurd h h1
 ·rename_i h1
  split at h
  ·cases h
  ·rename_i h2
   split at h
   ·cases h
   ·rename_i h3
    split at h
    ·cases h
    ·rename_i h4
     exact ⟨by simpa using h1, by omega, by omega, by omega, by omega, by simpa using h4⟩
theorem evaluate_inState (ps : List Pr) (hs : Sm ps) (p k : Nat) (hp : p < ps.length) (hk : k ≤ ps[p].evs.length) (t : Pd) (hz : szF t ≤ 1000000) (hc : checkF ps t = 0) (h9 : 9 ≤ t.kind) (hl : allB (lclB p) t = true) :
  PC Proofs.Tryz.prog 95 [aTr ps, ai p, ai k, aPd t] (ab (lclT ps p t k)) := by
 obtain ⟨hv, _, hok, hfit⟩ := checkF_zero hc
 have hok' := hok
 unfold okT at hok'
 simp only [Bool.and_eq_true] at hok'
 obtain ⟨l1, l2, _⟩ := st_leaf ps hs hv p k hp hk t hok'.1.2 hl
 have hn := hs.procs
 have h1 := view_truth ps (stC ps.length p k) (stV ps.length p (stateAt ps[p] k)) (stO ps p k) (by rw [stC_len]; omega) t hz hok h9 hfit (lcl_ntm t hl) l2 l1
 have h2 := variable_State ps hs hv p k hp hk
 unfold lclT
 generalize truF (stO ps p k) t = b at *
 obtain ⟨kk, n, pr, q, s, l⟩ := t
 have hC : (stC ps.length p k).map ai = (List.replicate ps.length (ai 0)).set p (ai k) := by unfold stC; rw [List.map_set, List.map_replicate]
 have hTr : aTr ps = .agg [aPrs ps] := rfl
 generalize hS : stateAt ps[p] k = S at *
 simp only [aPd_mk] at *
 refine PC.enter 39 [.tmp 8] [4, 7, 9] Proofs.Tryz.func95 rfl rfl rfl rfl rfl (by simp) (AWp.of ?_); simp only [go_sem]
 repeat (first | ((with_reducible refine AWp.ofC ?_ ?_); exact rfl; simp only [go_sem]) | ((with_reducible refine an ?_ ?_); exact Au))
 refine AWp.cut [1, 2, 4, 7, 9] (fun vs L => ∃ bc bv, L.Perm [(bv, .row 29 1 (List.replicate ps.length anil) ps.length), (bc, .row 3 1 (List.replicate ps.length (ai 0)) ps.length)] ∧
  vs = [ai p, ai k, .rp 1 [aTr ps] 0 0, .rp 6 [.agg [ai kk, ai n, ai pr, ai q, astr s, .sl 6 (l.map aPd)]] 0 0, .rp 3 [.agg [aPrs ps, .ls bc 1 0 ps.length ps.length, .ls bv 1 0 ps.length ps.length]] 0 0]) ?_ ?_
 ·repeat (first | (with_reducible refine AWp.seq ?_) | (with_reducible refine AWp.block ?_))
  refine AWp.mix mixed [0, 1, 2, 3, 5, 6, 7] (.step 4 (.step 8 (.step 9 (.step 10 (.step 11 .done .done) .done) (.step 10 (.step 9 (.step 11 .done .done) .done) .done)) (.step 10 (.step 8 (.step 9 (.step 11 .done .done) .done) .done) .done)) (.step 8 (.step 4 (.step 9 (.step 10 (.step 11 .done .done) .done) (.step 10 (.step 9 (.step 11 .done .done) .done) .done)) (.step 10 (.step 4 (.step 9 (.step 11 .done .done) .done) .done) .done)) (.step 10 (.step 4 (.step 8 (.step 9 (.step 11 .done .done) .done) .done) (.step 8 (.step 4 (.step 9 (.step 11 .done .done) .done) .done) .done)) .done))) (by kernel_rfl) ?_; simp only [go_sem]
  repeat' (first | (with_reducible refine And.intro ?_ ?_) | intro _)
  all_goals first | omega | skip
  all_goals ((repeat rw [if_neg (by omega)]); (try simp only [go_sem]))
  all_goals (repeat' (first | (with_reducible refine And.intro ?_ ?_) | intro _))
  all_goals first | omega | exact ⟨_, List.Sublist.refl _, _, _, .refl _, rfl⟩ | exact ⟨_, List.Sublist.refl _, _, _, .swap _ _ _, rfl⟩
 ·rintro vs L - ⟨bc, bv, hP, rfl⟩
  refine AWp.perm hP (AWp.nodup fun hnd => ?_)
  have n1 : ¬ bv = bc := by simpa using hnd
  have n2 : ¬ bc = bv := fun e => n1 e.symm
  have hg0 : (List.replicate ps.length (ai 0)).getD p .any = ai 0 := by rw [List.getD_eq_getElem?_getD, List.getElem?_replicate, if_pos hp]; rfl
  have hg1 : (List.replicate ps.length anil).getD p .any = anil := by rw [List.getD_eq_getElem?_getD, List.getElem?_replicate, if_pos hp]; rfl
  simp only [go_sem]
  repeat ((with_reducible refine an ?_ ?_); exact As)
  refine AWp.of ?_; simp only [go_sem, n2, hg0, List.length_replicate]
  repeat ((with_reducible refine an ?_ ?_); exact As)
  rw [← hC]
  refine AWp.seq ?_
  repeat (first | (with_reducible refine AWp.seq ?_) | (with_reducible refine AWp.block ?_))
  refine AWp.mix mixed [0, 1, 2, 3, 4, 5, 6, 7, 8, 9] (.step 10 (.step 11 .done .done) .done) (by kernel_rfl) ?_; simp only [go_sem]
  repeat ((with_reducible refine an ?_ ?_); exact As)
  refine GCall.use (.tup [aInts S, ai 0]) (fun _ => ⟨At, (h2).val.use ⟨rfl, rfl⟩⟩) ?_; simp only [go_sem, n1, hg1]
  repeat ((with_reducible refine an ?_ ?_); exact As)
  refine AWp.view [true, true] [(9, .rp 3 [aView ps (stC ps.length p k) (stV ps.length p S)] 0 0)] (LVw.refl _) (fun x hx => ?_) ?_
  ·simp only [List.mem_singleton] at hx
   subst hx
   simp only [go_sem, pickT]
   refine .rp rfl (Vws.cons (.mkAgg (Vws.cons (.refl _) (Vws.cons (Vw.ofLs (t := 3) (cap := ps.length) (by simp [lk, n2]) (by rw [List.length_map, stC_len])) (Vws.cons ?_ .nil)))) .nil).2
   refine .ls (t := 29) (xs := (List.replicate ps.length anil).set p (aInts S)) (cap := ps.length) (by simp [lk, aInts]) (by simp) (by simp [stV]) fun i x y hx hy => ?_
   rw [List.drop_zero, List.take_of_length_le (by simp), List.getElem?_set] at hx
   unfold stV at hy
   rw [List.map_set, List.getElem?_set] at hy
   by_cases e : p = i
   ·subst e
    simp [hp] at hx hy
    subst hx; subst hy; exact .refl _
   ·rw [if_neg e, List.getElem?_replicate] at hx
    rw [if_neg e, List.getElem?_map, List.getElem?_replicate] at hy
    by_cases h5 : i < ps.length
    ·rw [if_pos h5] at hx hy
     cases hx; cases hy
     exact .nil 1
    ·rw [if_neg h5] at hx; cases hx
  ·simp only [go_sem, pickF]
   repeat (first | ((with_reducible refine AWp.ofC ?_ ?_); exact rfl; simp only [go_sem]) | ((with_reducible refine an ?_ ?_); exact Au))
   repeat ((with_reducible refine an ?_ ?_); exact As)
   refine (h1).val.use ?_; simp only [go_sem]
   repeat (first | ((with_reducible refine AWp.ofC ?_ ?_); exact rfl; simp only [go_sem]) | ((with_reducible refine an ?_ ?_); exact Au))
   refine ret_eq ?_; simp only [go_sem]
end Go.AL
end
section
namespace Go.AL
open Go Go.RowKit
set_option maxRecDepth 4000
theorem truthsF_nat {ps : List Pr} {p : Nat} (hp : p < ps.length) (t : Pd) : truthsF ps p t = (List.range (ps[p].evs.length + 1)).map fun (k : Nat) => lclT ps p t k := by
 unfold truthsF; rw [evN_get hp, Int.toNat_natCast]
noncomputable def aTruths (ps : List Pr) (p : Int) (t : Pd) : AV := if lclF ps p 0 t = 0 then .tup [.sl 1 ((truthsF ps p.toNat t).map ab), ai 0] else .tup [.sl 1 [], ai (lclF ps p 0 t)]
theorem evaluate_Truths (ps : List Pr) (hs : Sm ps) (p : Int) (t : Pd) (hz : szF t ≤ 1000000) : PC Proofs.Tryz.prog 55 [aTr ps, ai p, aPd t] (aTruths ps p t) := by
 have h1 := evaluate_check ps hs p 0 t hz
 have hl := hs.procs
 unfold aTruths
 by_cases he : lclF ps p 0 t = 0
 ·rw [if_pos he]
  rw [he] at h1
  have hp0 : 0 ≤ p := by
   unfold lclF at he
   split at he
   ·rename_i h; exact absurd he h
   ·split at he
    ·cases he
    ·rename_i h; omega
  obtain ⟨i, rfl⟩ : ∃ i : Nat, p = i := ⟨p.toNat, by omega⟩
  rw [Int.toNat_natCast]
  obtain ⟨hc, hp, _, _, h9, hlc⟩ := lcl_ok he
  have hel := hs.evs _ (List.getElem_mem hp)
  have hgp := getD_map (f := aPr) hp
  have hst := fun (k : Nat) hk => evaluate_inState ps hs i k hp hk t hz hc h9 hlc
  rw [truthsF_nat hp, List.map_map]
  have hy : ∀ k, ((List.range k).map fun (k : Nat) => ab (lclT ps i t k)).length = k := fun k => by simp
  have hys : ∀ k, ((List.range (k + 1)).map fun (k : Nat) => ab (lclT ps i t k)) = ((List.range k).map fun (k : Nat) => ab (lclT ps i t k)) ++ [ab (lclT ps i t k)] := fun k => by rw [List.range_succ, List.map_append]; rfl
  have hfin : (List.range (ps[i].evs.length + 1)).map (ab ∘ fun (k : Nat) => lclT ps i t k) = (List.range (ps[i].evs.length + 1)).map fun (k : Nat) => ab (lclT ps i t k) := rfl
  rw [hfin]
  obtain ⟨k0, n, pp, q, s, l⟩ := t
  simp only [aPd_mk] at *
  generalize hY : (fun k : Nat => (List.range k).map fun (j : Nat) => ab (lclT ps i (.mk k0 n pp q s l) j)) = Y at *
  have hYk : ∀ k, ((List.range k).map fun (j : Nat) => ab (lclT ps i (.mk k0 n pp q s l) j)) = Y k := fun k => by rw [← hY]
  simp only [hYk] at hy hys ⊢
  refine PC.enter 39 [.tmp 6, .tmp 7] [3, 5, 35] Proofs.Tryz.func55 rfl rfl rfl rfl rfl (by simp) (AWp.of ?_); simp only [go_sem]
  repeat (first | ((with_reducible refine AWp.ofC ?_ ?_); exact rfl; simp only [go_sem]) | ((with_reducible refine an ?_ ?_); exact Au))
  repeat ((with_reducible refine an ?_ ?_); exact As)
  refine (h1).val.use ?_; simp only [go_sem]
  repeat (first | ((with_reducible refine AWp.ofC ?_ ?_); exact rfl; simp only [go_sem, hgp]) | ((with_reducible refine an ?_ ?_); exact Au))
  refine AWp.range' (ps[i].evs.length + 1) [9] [1, 3, 5, 25] (fun k vs L => ∃ v, vs = [v] ∧ AppSt 4 1 (Y k) v L) (by omega) rfl rfl rfl ⟨anil, rfl, by rw [← hY]; exact .nil⟩ ?_ ?_
  ·rintro k vs L' hk - ⟨v, rfl, hA⟩
   have hyl := hy k
   have hst := hst k (by omega)
   rw [hys k]
   have hfo := hA.fo
   generalize Y k = ys at *
   generalize lclT ps i (.mk k0 n pp q s l) k = b at *
   rcases hA.inv with ⟨e1, rfl, rfl⟩ | ⟨b', cap, rfl, rfl⟩
   ·simp only [go_sem]
    repeat (first | ((with_reducible refine AWp.ofC ?_ ?_); exact rfl; simp only [go_sem]) | ((with_reducible refine an ?_ ?_); exact Au))
    repeat ((with_reducible refine an ?_ ?_); exact As)
    refine (hst).val.use ?_; simp only [go_sem]
    repeat ((with_reducible refine an ?_ ?_); exact As)
    intro b' cap' _
    refine ⟨_, List.Sublist.refl _, _, rfl, ?_⟩
    rw [e1]
    exact .row _ _ _
   ·simp only [go_sem]
    repeat (first | ((with_reducible refine AWp.ofC ?_ ?_); exact rfl; simp only [go_sem]) | ((with_reducible refine an ?_ ?_); exact Au))
    repeat ((with_reducible refine an ?_ ?_); exact As)
    refine (hst).val.use ?_; simp only [go_sem]
    repeat ((with_reducible refine an ?_ ?_); exact As)
    intro b' cap' _
    refine ⟨_, List.Sublist.refl _, _, rfl, ?_⟩
    have := AppSt.row (t := 4) (k := 1) b' (ys ++ [ab b]) cap'
    simpa using this
  ·rintro vs L' - ⟨v, rfl, hA⟩
   have hyl := hy (ps[i].evs.length + 1)
   generalize Y (ps[i].evs.length + 1) = ys at *
   simp only [go_sem]
   rcases hA.inv with ⟨e1, rfl, rfl⟩ | ⟨b, cap, rfl, rfl⟩
   ·rw [e1] at hyl; simp at hyl
   ·repeat (first | ((with_reducible refine AWp.ofC ?_ ?_); exact rfl; simp only [go_sem]) | ((with_reducible refine an ?_ ?_); exact Au))
    refine ret_view [true] ?_; simp only [go_sem]
    exact .mkTup (Vws.cons (Vw.ofLs (if_pos rfl) rfl) (Vws.refl _))
 ·rw [if_neg he]
  generalize lclF ps p 0 t = e at *
  obtain ⟨k0, n, pp, q, s, l⟩ := t
  simp only [aPd_mk] at *
  refine PC.enter 39 [.tmp 6, .tmp 7] [3, 5, 35] Proofs.Tryz.func55 rfl rfl rfl rfl rfl (by simp) (AWp.of ?_); simp only [go_sem]
  repeat (first | ((with_reducible refine AWp.ofC ?_ ?_); exact rfl; simp only [go_sem]) | ((with_reducible refine an ?_ ?_); exact Au))
  repeat ((with_reducible refine an ?_ ?_); exact As)
  refine (h1).val.use ?_; simp only [go_sem]
  repeat (first | ((with_reducible refine AWp.ofC ?_ ?_); exact rfl; simp only [go_sem, he]) | ((with_reducible refine an ?_ ?_); exact Au))
  refine ret_view [] ?_; simp only [go_sem]
  exact .mkTup (Vws.cons (.nil 1) (Vws.refl _))
theorem ref29_Local (ps : List Pr) (hs : Sm ps) (p k : Nat) (hp : p < ps.length) (hk : k ≤ ps[p].evs.length) (t : Pd) (hz : szF t ≤ 1000000) (hc : checkF ps t = 0) (h9 : 9 ≤ t.kind) (hl : allB (lclB p) t = true) :
  PC Proofs.Tryz.prog 63 [aTr ps, ai p, ai k, aPd t] (ab (lclT ps p t k)) := by
 obtain ⟨hv, _, hok, hfit⟩ := checkF_zero hc
 have hok' := hok
 unfold okT at hok'
 simp only [Bool.and_eq_true] at hok'
 obtain ⟨_, l2, l1⟩ := st_leaf ps hs hv p k hp hk t hok'.1.2 hl
 have hn := hs.procs
 have h1 := ref29_Truth ps (stC ps.length p k) (stO ps p k) (by rw [stC_len]; omega) t hz hok h9 hfit (lcl_ntm t hl) l2 l1
 unfold lclT
 generalize truF (stO ps p k) t = b at *
 obtain ⟨kk, n, pr, q, s, l⟩ := t
 have hC : (stC ps.length p k).map ai = (List.replicate ps.length (ai 0)).set p (ai k) := by unfold stC; rw [List.map_set, List.map_replicate]
 have hg0 : (List.replicate ps.length (ai 0)).getD p .any = ai 0 := by rw [List.getD_eq_getElem?_getD, List.getElem?_replicate, if_pos hp]; rfl
 have hCl : (List.replicate ps.length (ai 0)).length = ps.length := List.length_replicate
 simp only [aPd_mk] at *
 refine PC.enter 22 [.tmp 8] [4, 7] Proofs.Tryz.func63 rfl rfl rfl rfl rfl (by simp) (AWp.of ?_); simp only [go_sem]
 repeat (first | ((with_reducible refine AWp.ofC ?_ ?_); exact rfl; simp only [go_sem]) | ((with_reducible refine an ?_ ?_); exact Au))
 repeat ((with_reducible refine an ?_ ?_); exact As)
 intro b9
 repeat ((with_reducible refine an ?_ ?_); exact As)
 refine AWp.of ?_; simp only [go_sem, hg0, List.length_replicate]
 repeat ((with_reducible refine an ?_ ?_); exact As)
 rw [← hC]
 refine AWp.view [true] [(9, aInts (stC ps.length p k))] (LVw.refl _) (fun x hx => ?_) ?_
 ·simp only [List.mem_singleton] at hx
  subst hx
  simp only [go_sem, pickT]
  exact Vw.ofLs (t := 3) (cap := ps.length) (by simp only [lk, if_true]) (by rw [List.length_map, stC_len])
 ·simp only [go_sem, pickF]
  repeat (first | ((with_reducible refine AWp.ofC ?_ ?_); exact rfl; simp only [go_sem]) | ((with_reducible refine an ?_ ?_); exact Au))
  repeat ((with_reducible refine an ?_ ?_); exact As)
  refine (h1).val.use ?_; simp only [go_sem]
  repeat (first | ((with_reducible refine AWp.ofC ?_ ?_); exact rfl; simp only [go_sem]) | ((with_reducible refine an ?_ ?_); exact Au))
  refine ret_eq ?_; simp only [go_sem]
end Go.AL
end
section
namespace Go.AL
open Go Go.RowKit
set_option maxRecDepth 4000
noncomputable def elimOf (ps : List Pr) (ts : List Pd) : Elim where
 n := ps.length
 top := nev ps
 ok := fun p k => match ts[p]? with | some t => lclT ps p t k | none => true
 need := fun q k p => cAt (closeF ps (stC ps.length q k)) p
def doneN (E : Elim) (p : Nat) : List AV := (List.range E.n).map fun q => if q < p then .sl 1 (needM E q) else anil
def needK (E : Elim) (q m : Nat) : List AV := (List.range m).map fun j => .sl 1 (needL E q j)
end Go.AL
end
section
namespace Go.AL
open Go Go.RowKit
set_option maxRecDepth 4000
def aStp (s : Stp) : AV := .agg [ai s.1, ai s.2.1, ai s.2.2]
def stepR (E : Elim) (now : Nat → Nat) : AV := match stepP E now with
 | none => .tup [(.agg [ai 0, ai 0, ai 0]), ab false]
 | some p => .tup [.agg [ai p, ai (now p), ai ((goF E now p : Int) - 1)], ab true]
def stepN (E : Elim) (now : Nat → Nat) : Nat → Nat := match stepP E now with
 | none => now
 | some p => updN now p (goF E now p)
end Go.AL
end
section
namespace Go.AL
open Go Go.RowKit
set_option maxRecDepth 4000
def lclAt (z : Int → Pd → Int) (ts : List Pd) (p : Nat) : Int := match ts[p]? with | some t => z p t | none => 0
noncomputable def conF (ps : List Pr) (ts : List Pd) : Int :=
 if validF ps = true ∧ ts.length = ps.length then match (List.range ts.length).find? (fun p => decide (lclAt (fun p t => lclF ps p 0 t) ts p ≠ 0)) with | some p => lclAt (fun p t => lclF ps p 0 t) ts p | none => 0 else 1
theorem conF_bad {ps : List Pr} {ts : List Pd} (h : ¬ (validF ps = true ∧ ts.length = ps.length)) : conF ps ts = 1 := by unfold conF; rw [if_neg h]
theorem conF_hit {ps : List Pr} {ts : List Pd} (h : validF ps = true ∧ ts.length = ps.length) {p : Nat} (hp : p < ts.length) (h0 : ∀ q (hq : q < ts.length), q < p → lclF ps q 0 ts[q] = 0) (h1 : lclF ps p 0 ts[p] ≠ 0) : conF ps ts = lclF ps p 0 ts[p] := by
 have e : ∀ q (hq : q < ts.length), lclAt (fun p t => lclF ps p 0 t) ts q = lclF ps q 0 ts[q] := fun q hq => by unfold lclAt; rw [List.getElem?_eq_getElem hq]
 unfold conF
 rw [if_pos h, find_range_of hp (by rw [e p hp]; exact decide_eq_true h1) fun q hq => by rw [e q (by omega), h0 q (by omega) hq]; rfl]
 exact e p hp
theorem conF_zero {ps : List Pr} {ts : List Pd} (h : validF ps = true ∧ ts.length = ps.length) (h0 : ∀ q (hq : q < ts.length), lclF ps q 0 ts[q] = 0) : conF ps ts = 0 := by
 have e : ∀ q (hq : q < ts.length), lclAt (fun p t => lclF ps p 0 t) ts q = lclF ps q 0 ts[q] := fun q hq => by unfold lclAt; rw [List.getElem?_eq_getElem hq]
 unfold conF
 rw [if_pos h, find_range_no fun q hq => by rw [e q hq, h0 q hq]; rfl]
theorem conF_inv {ps : List Pr} {ts : List Pd} (h : conF ps ts = 0) : validF ps = true ∧ ts.length = ps.length ∧ ∀ q (hq : q < ts.length), lclF ps q 0 ts[q] = 0 := by
 by_cases h1 : validF ps = true ∧ ts.length = ps.length
 ·refine ⟨h1.1, h1.2, fun q hq => ?_⟩
  have e : ∀ q (hq : q < ts.length), lclAt (fun p t => lclF ps p 0 t) ts q = lclF ps q 0 ts[q] := fun q hq => by unfold lclAt; rw [List.getElem?_eq_getElem hq]
  unfold conF at h
  rw [if_pos h1] at h
  cases hf : (List.range ts.length).find? (fun p => decide (lclAt (fun p t => lclF ps p 0 t) ts p ≠ 0)) with
  | some p =>
   rw [hf] at h
   have := (find_range hf).2.1
   have h : lclAt (fun p t => lclF ps p 0 t) ts p = 0 := h
   rw [h] at this; simp at this
  | none =>
   have := find_range_none hf q hq
   rw [e q hq] at this
   simpa using this
 ·rw [conF_bad h1] at h; cases h
end Go.AL
end
section
namespace Go.AL
open Go Go.RowKit
set_option maxRecDepth 4000
theorem AWp.only {C : Cfg} {cd : Code} {Q : AQ} {ρ : Env} {L : AHeap} (ks : List Nat) (h : AWp C cd Q (ks.zip (ks.map (get ρ))) L) : AWp C cd Q ρ L :=
 AWp.st (fun _w0 _M _A0 _a _w hh => st_forget hh (get_zip ks ρ)) h
def psA : List Pr := [⟨⟨#[112]⟩, [], [⟨2, 1, 5, 0, []⟩]⟩, ⟨⟨#[113]⟩, [], [⟨3, 0, 5, 3, []⟩]⟩]
def psB : List Pr := [⟨⟨#[112]⟩, [], []⟩, ⟨⟨#[113]⟩, [], [⟨1, 0, 0, 3, []⟩]⟩]
end Go.AL
end
section
namespace Go.AL
open Go Go.RowKit
set_option maxRecDepth 4000
structure Ans where
 mode : Int
 holds : Bool
 kind : Int
 cut : List Int
 cuts : List (List Int)
 run : List (List Int)
 spans : List (Int × Int × Int)
 value : Int
def aSp (s : Int × Int × Int) : AV := .agg [ai s.1, ai s.2.1, ai s.2.2]
def aSps (l : List (Int × Int × Int)) : AV := .sl 3 (l.map aSp)
def aAns (a : Ans) : AV := .agg [ai a.mode, ab a.holds, ai a.kind, aInts a.cut, aRows a.cuts, aRows a.run, aSps a.spans, ai a.value]
def stpI (s : Stp) : Int × Int × Int := (s.1, s.2.1, s.2.2)
theorem aStp_I (l : List Stp) : .sl 3 (l.map aStp) = aSps (l.map stpI) := by unfold aSps; rw [List.map_map]; rfl
def cutL (n : Nat) (f : Nat → Nat) : List Int := (List.range n).map fun q => (f q : Int)
def noAns : Ans := ⟨0, false, 0, [], [], [], [], 0⟩
noncomputable def ansOf (E : Elim) : Ans := if lostF E = true then ⟨1, false, 4, [], [], [], (stepsF E).map stpI, 0⟩ else ⟨1, true, 1, cutL E.n (finF E), [], [], [], 0⟩
def psC : List Pr := [⟨⟨#[112]⟩, [(⟨#[120]⟩, 0)], [⟨1, 0, 0, 0, [(0, 1)]⟩, ⟨1, 0, 0, 0, [(0, 0)]⟩, ⟨2, 1, 5, 0, []⟩]⟩, ⟨⟨#[113]⟩, [(⟨#[121]⟩, 0)], [⟨3, 0, 5, 0, []⟩, ⟨1, 0, 0, 0, [(0, 1)]⟩]⟩]
def oneT (p : Int) (s : ByteArray) : Pd := .mk 9 0 0 0 ByteArray.empty [.mk 2 0 p 0 s [], .mk 1 1 0 0 ByteArray.empty []]
def tsC : List Pd := [oneT 0 ⟨#[120]⟩, oneT 1 ⟨#[121]⟩]
def tsD : List Pd := [oneT 0 ⟨#[120]⟩, .mk 13 0 0 0 ByteArray.empty []]
end Go.AL
end
section
namespace Go.AL
open Go Go.RowKit
set_option maxRecDepth 4000
def openN (ps : List Pr) : Nat → List Int → List Int
 | 0, c => c
 | n + 1, c => match missF ps c with
  | none => c
  | some x => openN ps n (c.set x.2.1.toNat (x.2.2 - 1))
def openF (ps : List Pr) (c : List Int) : List Int := openN ps (totC c) c
end Go.AL
end
section
namespace Go.AL
open Go Go.RowKit
set_option maxRecDepth 4000
structure NeedOk (ps : List Pr) (E : Elim) : Prop where
 n : E.n = ps.length
 top : ∀ p (hp : p < ps.length), E.top p = ps[p].evs.length
 need : ∀ q k p, E.need q k p = cAt (closeF ps (stC ps.length q k)) p
structure SatD (ps : List Pr) (E : Elim) (d : List Int) : Prop where
 len : d.length = ps.length
 rng : inRangeF ps d = true
 clo : closedF ps d = true
 ok : ∀ p, p < ps.length → E.ok p (cAt d p).toNat = true
theorem stC_cAt {n p q : Nat} {k : Int} (hq : q < n) : cAt (stC n p k) q = if p = q then k else 0 := by
 rw [cAt_nat (by rw [stC_len]; exact hq)]
 unfold stC
 rw [List.getElem_set, List.getElem_replicate]
theorem need_le {ps : List Pr} (hv : validF ps = true) {d : List Int} (hd : d.length = ps.length) (hr : inRangeF ps d = true) (hcl : closedF ps d = true) {q k : Nat} (hq : q < ps.length) (hk : (k : Int) ≤ cAt d q) : ∀ p, p < ps.length → cAt (closeF ps (stC ps.length q k)) p ≤ cAt d p := by
 have h0 := (inRange_iff hd).1 hr
 obtain ⟨a1, a2⟩ := stC_ok (k := (k : Int)) hq (by omega) (by have := (h0 q hq).2; omega)
 refine closeF_least hv hd hcl a1 a2 fun p hp => ?_
 rw [stC_cAt hp]
 split
 ·rename_i e; subst e; exact hk
 ·exact (h0 p hp).1
section
variable {ps : List Pr} {E : Elim}
end
end Go.AL
end
