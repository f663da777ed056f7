/- The layer AL, part 8: calls, and one function that tells what each operation asks and gives, with its proof. No condition. -/
import Derived.Test.YtkfkdmefabefkaaAlApp
import Derived.Test.YtkfkdmefabefkaaAlMap
import Derived.RangeFuncIn
namespace Go.AL
open Go Go.RowKit

/-! ### Calls -/
def Enters (P : Program) (f : FuncId) : Prop := ∀ args w, (callFunc f args).run P w = .ok (.enter f args) w
theorem enters_of {P : Program} {f : FuncId} {fn : Func} {c : Code} (hf : P.funcs[f]? = some fn) (hname : (fn.name == "runtime.NumGoroutine") = false) (hb : fn.body = some c) : Enters P f := by
  intro args w
  have h1 : fn.name ≠ "runtime.NumGoroutine" := by simpa using hname
  simp [callFunc, hf, h1, hb, mark]

def FCall (n : Nat) (P : Program) (gv : Value) (vs : List Value) (w : World) (R : Ending → World → Prop) : Prop :=
  match gv with
  | .func (.func f) first cap => first = #[] ∧ Enters P f ∧ CallsIn Fence.wide n P f (vs.toArray ++ cap) w R
  | .func (.yield l) first cap => first = #[] ∧ cap = #[] ∧ ∃ fn tmps assign body, (Instr.yield l vs.toArray).run P w = .ok (.round l fn tmps assign body) w ∧ RoundIn Fence.wide n P l fn tmps assign body w R
  | _ => False

def cpost (w : World) (A : Foot) (L : AHeap) (K : AV → AHeap → Prop) (e : Ending) (w' : World) : Prop :=
  ∃ v r L' A', e = .returned v ∧ K r L' ∧ Fr w (keysOf L) w' ∧ (∀ b, A' b → A b ∨ keysOf L b ∨ w.heap.size ≤ b) ∧ LRel w' A' L' ∧ (∀ x ∈ L', keysOf L x.1 ∨ w.heap.size ≤ x.1) ∧ Rel w' A' r v

/-- A call of a function value. -/
def MVal (P : Program) (g : AV) (args : List AV) (L : AHeap) (K : AV → AHeap → Prop) : Prop :=
  ∀ n w A gv vs, LRel w A L → Rel w A g gv → Rels w A args vs → FCall n P gv vs w (cpost w A L K)
/-- A call of a function by its number. -/
def MCalls (P : Program) (f : FuncId) (args : List AV) (L : AHeap) (K : AV → AHeap → Prop) : Prop :=
  Enters P f ∧ ∀ n w A vs, LRel w A L → Rels w A args vs → CallsIn Fence.wide n P f vs.toArray w (cpost w A L K)

theorem cpost.mono {w : World} {A : Foot} {L : AHeap} {K K' : AV → AHeap → Prop} (h : ∀ r L, K r L → K' r L) {e : Ending} {w' : World} (hp : cpost w A L K e w') : cpost w A L K' e w' :=
  let ⟨v, r, L', A', h1, h2, h3⟩ := hp
  ⟨v, r, L', A', h1, h _ _ h2, h3⟩
theorem FCall.mono {n : Nat} {P : Program} {gv : Value} {vs : List Value} {w : World} {R R' : Ending → World → Prop} (h : FCall n P gv vs w R) (hr : ∀ e w, R e w → R' e w) : FCall n P gv vs w R' := by
  unfold FCall at *
  split at h
  · exact ⟨h.1, h.2.1, h.2.2.mono hr⟩
  · obtain ⟨h1, h2, fn, tmps, assign, body, h3, h4⟩ := h
    exact ⟨h1, h2, fn, tmps, assign, body, h3, h4.mono hr⟩
  · exact h.elim
theorem MVal.mono {P : Program} {g : AV} {args : List AV} {L : AHeap} {K K' : AV → AHeap → Prop} (h : MVal P g args L K) (hk : ∀ r L, K r L → K' r L) : MVal P g args L K' :=
  fun n w A gv vs h1 h2 h3 => (h n w A gv vs h1 h2 h3).mono fun _ _ => cpost.mono hk
theorem MCalls.mono {P : Program} {f : FuncId} {args : List AV} {L : AHeap} {K K' : AV → AHeap → Prop} (h : MCalls P f args L K) (hk : ∀ r L, K r L → K' r L) : MCalls P f args L K' :=
  ⟨h.1, fun n w A vs h1 h2 => (h.2 n w A vs h1 h2).mono fun _ _ => cpost.mono hk⟩
theorem MCalls.val {P : Program} {f : FuncId} {args : List AV} {L : AHeap} {K : AV → AHeap → Prop} (h : MCalls P f args L K) : MVal P (.v (.func (.func f) #[] #[])) args L K :=
  fun n w A gv vs h1 h2 h3 => by
    obtain rfl := h2.inv_v
    exact ⟨rfl, h.1, by have := h.2 n w A vs h1 h3; simpa using this⟩
theorem MCalls.clo {P : Program} {f : FuncId} {args caps : List AV} {L : AHeap} {K : AV → AHeap → Prop} (h : MCalls P f (args ++ caps) L K) : MVal P (.clo f caps) args L K :=
  fun n w A gv vs h1 h2 h3 => by
    cases h2 with
    | clo _ _ us hn hh =>
      refine ⟨rfl, h.1, ?_⟩
      have := h.2 n w A (vs ++ us.toList) h1 (Rels.append h3 ⟨by simpa using hn, fun i a u ha hu => hh i a u ha (by simpa using hu)⟩)
      rwa [show (vs ++ us.toList).toArray = vs.toArray ++ us by simp] at this

/-! ### What an operation that turns nothing gives -/
def w1 (x : AV) (f : AV → Option (Prop × AV)) : Option (Prop × AV) :=
  match f (fo x).2 with
  | some (c, y) => some ((fo x).1 ∧ c, y)
  | none => none
def w2 (x y : AV) (f : AV → AV → Option (Prop × AV)) : Option (Prop × AV) :=
  match f (fo x).2 (fo y).2 with
  | some (c, z) => some (((fo x).1 ∧ (fo y).1) ∧ c, z)
  | none => none
def fop : Option AV → Prop
  | none => True
  | some x => (fo x).1
def wo (p : Prop) : Option (Prop × AV) → Option (Prop × AV)
  | some (c, y) => some (p ∧ c, y)
  | none => none
theorem wo_inv {p c : Prop} {r : Option (Prop × AV)} {z : AV} (h : wo p r = some (c, z)) (hc : c) : p ∧ ∃ c', r = some (c', z) ∧ c' := by
  unfold wo at h
  split at h
  · rename_i c' y; cases h; exact ⟨hc.1, c', rfl, hc.2⟩
  · cases h
def fos : List AV → Prop
  | [] => True
  | x :: r => (fo x).1 ∧ fos r

def aval (P : Program) (ρ : Env) (L : AHeap) (op : Op) : Option (Prop × AV) :=
  match op with
  | .move x => some ((fo (ev ρ x)).1, (fo (ev ρ x)).2)
  | .assign x => some ((fo (ev ρ x)).1, (fo (ev ρ x)).2)
  | .pick c a b => match (fo (ev ρ c)).2 with
    | .v (.bool t) => some ((fo (ev ρ c)).1 ∧ (t = true → (fo (ev ρ a)).1) ∧ (t = false → (fo (ev ρ b)).1), pickAV t (fo (ev ρ a)).2 (fo (ev ρ b)).2)
    | _ => none
  | .load t x => w1 (ev ρ x) (aLoad P L t)
  | .fieldAddr t x f => w1 (ev ρ x) fun p => aFieldAddr P t p f
  | .field t x f => w1 (ev ρ x) fun p => aField P t p f
  | .indexAddr t x i => w2 (ev ρ x) (ev ρ i) (aIndexAddr P t)
  | .index t x i => w2 (ev ρ x) (ev ρ i) (aIndex P t)
  | .slice t x lo hi none => w1 (ev ρ x) fun p => wo (fop (lo.map (ev ρ)) ∧ fop (hi.map (ev ρ))) (aSlice P t p (lo.map fun y => (fo (ev ρ y)).2) (hi.map fun y => (fo (ev ρ y)).2))
  | .binOp op t x y _ => w2 (ev ρ x) (ev ρ y) (aEq P op t)
  | .unOp op _ x => w1 (ev ρ x) (aUn op)
  | .convert s d x => w1 (ev ρ x) (aConv P s d)
  | .extract x i => w1 (ev ρ x) fun p => aExtract p i
  | .nilCheck x => w1 (ev ρ x) aNil
  | .build t parts =>
    match aBuild P t (parts.toList.map fun p => (p.1, (fo (ev ρ p.2)).2)) with
    | some (c, x) => some (fos (parts.toList.map fun p => ev ρ p.2) ∧ c, x)
    | none => none
  | .makeFunc (.func f) first cap => match first.toList with
    | [] => some (True, .clo f (cap.toList.map (ev ρ)))
    | _ => none
  | .call c => match c.callee, c.args.toList, c.argTypes.toList with
    | .builtin .len, [x], [t] => w1 (ev ρ x) (aLen P L t)
    | .builtin .min, [x, y], _ => w2 (ev ρ x) (ev ρ y) aMin
    | .builtin .max, [x, y], _ => w2 (ev ρ x) (ev ρ y) aMax
    | _, _, _ => none
  | .lookup t m k ok => w2 (ev ρ m) (ev ρ k) (aLookup P L t ok)
  | _ => none

section
variable {P : Program} {w : World} {A : Foot} {L : AHeap}
theorem w1_inv {x : AV} {f : AV → Option (Prop × AV)} {c : Prop} {z : AV} (h : w1 x f = some (c, z)) (hc : c) : (fo x).1 ∧ ∃ c', f (fo x).2 = some (c', z) ∧ c' := by
  unfold w1 at h
  split at h
  · rename_i c' y hf; cases h; exact ⟨hc.1, c', hf, hc.2⟩
  · cases h
theorem w2_inv {x y : AV} {f : AV → AV → Option (Prop × AV)} {c : Prop} {z : AV} (h : w2 x y f = some (c, z)) (hc : c) : (fo x).1 ∧ (fo y).1 ∧ ∃ c', f (fo x).2 (fo y).2 = some (c', z) ∧ c' := by
  unfold w2 at h
  split at h
  · rename_i c' y' hf; cases h; exact ⟨hc.1.1, hc.1.2, c', hf, hc.2⟩
  · cases h
theorem Rels.of_map {ρ : Env} {a : Act} (hρ : ∀ y, Rel w A (ev ρ y) (a.eval y)) (l : List Operand) : Rels w A (l.map (ev ρ)) (l.map a.eval) :=
  ⟨by simp, fun i x u hx hu => by
    rw [List.getElem?_map] at hx hu
    cases hi : l[i]? with
    | none => rw [hi] at hx; cases hx
    | some y => rw [hi] at hx hu; cases hx; cases hu; exact hρ y⟩
theorem fos_ok {ρ : Env} {a : Act} (hρ : ∀ y, Rel w A (ev ρ y) (a.eval y)) (l : List Operand) (h : fos (l.map (ev ρ))) : Rels w A (l.map fun x => (fo (ev ρ x)).2) (l.map a.eval) := by
  induction l with
  | nil => exact Rels.nil
  | cons x l ih => exact Rels.cons (fo_ok (hρ x) h.1) (ih h.2)
theorem arr_one {α : Type} {a : Array α} {x : α} (h : a.toList = [x]) : a = #[x] := Array.ext' h
theorem arr_two {α : Type} {a : Array α} {x y : α} (h : a.toList = [x, y]) : a = #[x, y] := Array.ext' h
theorem orel_fo {ρ : Env} {a : Act} (hρ : ∀ y, Rel w A (ev ρ y) (a.eval y)) (o : Option Operand) (h : fop (o.map (ev ρ))) : ORel w A (o.map fun y => (fo (ev ρ y)).2) (o.map a.eval) := by
  cases o with
  | none => trivial
  | some x => exact fo_ok (hρ x) h
theorem orel {ρ : Env} {a : Act} (hρ : ∀ y, Rel w A (ev ρ y) (a.eval y)) (o : Option Operand) : ORel w A (o.map (ev ρ)) (o.map a.eval) := by
  cases o with
  | none => trivial
  | some x => exact hρ x

theorem aval_ok {ρ : Env} {o : Oper} {c : Prop} {x : AV} (h : aval P ρ L o.op = some (c, x)) (hc : c) {a : Act} (hρ : ∀ y, Rel w A (ev ρ y) (a.eval y)) (hL : LRel w A L) :
    ∃ u, (execOp a.eval o).run P w = .ok (.value u) w ∧ Rel w A x u := by
  unfold aval at h
  unfold execOp
  have lift : ∀ {s : Sem Value} {u : Value}, s.run P w = .ok u w → (do pure (Next.value (← s)) : Sem Next).run P w = .ok (.value u) w := fun {s u} h => by simp [h]
  split at h
  case h_1 y hop => cases h; rw [hop]; exact ⟨_, rfl, fo_ok (hρ y) hc⟩
  case h_2 y hop => cases h; rw [hop]; exact ⟨_, rfl, fo_ok (hρ y) hc⟩
  case h_3 cc a1 b1 hop =>
    rw [hop]
    split at h
    · rename_i t hcc
      cases h
      obtain ⟨hc0, hc⟩ := hc
      have h1 := fo_ok (hρ cc) hc0; rw [hcc] at h1; have h1 := h1.inv_v
      refine ⟨if t then a.eval a1 else a.eval b1, by simp [h1, asBool], ?_⟩
      rw [pickAV_eq]
      cases t
      · exact fo_ok (hρ b1) (hc.2 rfl)
      · exact fo_ok (hρ a1) (hc.1 rfl)
    · cases h
  case h_4 t y hop =>
    rw [hop]
    obtain ⟨h1, c', h2, h3⟩ := w1_inv h hc
    obtain ⟨u, hu, hr⟩ := aLoad_ok h2 h3 hL (fo_ok (hρ y) h1)
    exact ⟨u, lift hu, hr⟩
  case h_5 t y f hop =>
    rw [hop]
    obtain ⟨h1, c', h2, h3⟩ := w1_inv h hc
    obtain ⟨u, hu, hr⟩ := aFieldAddr_ok h2 h3 (fo_ok (hρ y) h1)
    exact ⟨u, lift hu, hr⟩
  case h_6 t y f hop =>
    rw [hop]
    obtain ⟨h1, c', h2, h3⟩ := w1_inv h hc
    obtain ⟨u, hu, hr⟩ := aField_ok h2 h3 (fo_ok (hρ y) h1)
    exact ⟨u, lift hu, hr⟩
  case h_7 t y i hop =>
    rw [hop]
    obtain ⟨h1, h1', c', h2, h3⟩ := w2_inv h hc
    obtain ⟨u, hu, hr⟩ := aIndexAddr_ok h2 h3 (fo_ok (hρ y) h1) (fo_ok (hρ i) h1')
    exact ⟨u, lift hu, hr⟩
  case h_8 t y i hop =>
    rw [hop]
    obtain ⟨h1, h1', c', h2, h3⟩ := w2_inv h hc
    obtain ⟨u, hu, hr⟩ := aIndex_ok h2 h3 (fo_ok (hρ y) h1) (fo_ok (hρ i) h1')
    exact ⟨u, lift hu, hr⟩
  case h_9 t y lo hi hop =>
    rw [hop]
    obtain ⟨h1, c', h2, h3⟩ := w1_inv h hc
    obtain ⟨⟨h4, h5⟩, c'', h2, h3⟩ := wo_inv h2 h3
    obtain ⟨u, hu, hr⟩ := aSlice_ok h2 h3 (fo_ok (hρ y) h1) (orel_fo hρ lo h4) (orel_fo hρ hi h5)
    exact ⟨u, lift hu, hr⟩
  case h_10 op t y z t' hop =>
    rw [hop]
    obtain ⟨h1, h1', c', h2, h3⟩ := w2_inv h hc
    obtain ⟨u, hu, hr⟩ := aEq_ok op t y z h2 h3 (fo_ok (hρ y) h1) (fo_ok (hρ z) h1')
    exact ⟨u, lift hu, hr⟩
  case h_11 op t y hop =>
    rw [hop]
    obtain ⟨h1, c', h2, h3⟩ := w1_inv h hc
    obtain ⟨u, hu, hr⟩ := aUn_ok h2 h3 (fo_ok (hρ y) h1)
    exact ⟨u, lift hu, hr⟩
  case h_12 s d y hop =>
    rw [hop]
    obtain ⟨h1, c', h2, h3⟩ := w1_inv h hc
    obtain ⟨u, hu, hr⟩ := aConv_ok h2 (fo_ok (hρ y) h1)
    exact ⟨u, lift hu, hr⟩
  case h_13 y i hop =>
    rw [hop]
    obtain ⟨h1, c', h2, h3⟩ := w1_inv h hc
    obtain ⟨u, hu, hr⟩ := aExtract_ok h2 h3 (fo_ok (hρ y) h1)
    exact ⟨u, lift hu, hr⟩
  case h_14 y hop =>
    rw [hop]
    obtain ⟨h1, c', h2, h3⟩ := w1_inv h hc
    exact aNil_ok h2 (fo_ok (hρ y) h1)
  case h_15 t parts hop =>
    rw [hop]
    split at h
    · rename_i c' x' hb
      cases h
      have hh := fos_ok hρ (parts.toList.map (·.2)) (by rw [List.map_map]; exact hc.1)
      obtain ⟨u, hu, hr⟩ := aBuild_ok (w := w) (A := A) (partsV := parts.map fun p => (p.1, a.eval p.2)) hb hc.2 (by simp [List.map_map, Function.comp_def]) (by simpa [List.map_map, Function.comp_def] using hh)
      exact ⟨u, lift hu, hr⟩
    · cases h
  case h_16 f first cap hop =>
    rw [hop]
    split at h
    · rename_i hfst
      cases h
      have : first = #[] := Array.ext' hfst
      subst this
      have hh := Rels.of_map (w := w) (A := A) hρ cap.toList
      refine ⟨.func (.func f) #[] (cap.map a.eval), by simp [Instr.makeFunc], .clo _ _ _ (by simp) (fun i x u hx hu => hh.2 i x u hx (by simpa using hu))⟩
    · cases h
  case h_17 cl hop =>
    rw [hop]
    obtain ⟨callee, args, argTypes⟩ := cl
    dsimp only at h ⊢
    split at h
    · rename_i x1 t ha ht
      obtain rfl := arr_one ha
      obtain rfl := arr_one ht
      obtain ⟨h1, c', h2, h3⟩ := w1_inv h hc
      obtain ⟨u, hu, hr⟩ := aLen_ok (ty := o.type) h2 hL (fo_ok (hρ x1) h1)
      exact ⟨u, by simp [resolve, invoke, builtin, hu], hr⟩
    · rename_i x1 x2 ha
      obtain rfl := arr_two ha
      obtain ⟨h1, h1', c', h2, h3⟩ := w2_inv h hc
      obtain ⟨u, hu, hr⟩ := aMin_ok (P := P) (as := argTypes) (ty := o.type) h2 h3 (fo_ok (hρ x1) h1) (fo_ok (hρ x2) h1')
      exact ⟨u, by simp [resolve, invoke, builtin, hu], hr⟩
    · rename_i x1 x2 ha
      obtain rfl := arr_two ha
      obtain ⟨h1, h1', c', h2, h3⟩ := w2_inv h hc
      obtain ⟨u, hu, hr⟩ := aMax_ok (P := P) (as := argTypes) (ty := o.type) h2 h3 (fo_ok (hρ x1) h1) (fo_ok (hρ x2) h1')
      exact ⟨u, by simp [resolve, invoke, builtin, hu], hr⟩
    · cases h
  case h_18 t m k ok hop =>
    rw [hop]
    obtain ⟨h1, h1', c', h2, h3⟩ := w2_inv h hc
    obtain ⟨u, hu, hr⟩ := aLookup_ok h2 h3 hL (fo_ok (hρ m) h1) (fo_ok (hρ k) h1')
    exact ⟨u, lift hu, hr⟩
  case h_19 => cases h
end
end Go.AL
