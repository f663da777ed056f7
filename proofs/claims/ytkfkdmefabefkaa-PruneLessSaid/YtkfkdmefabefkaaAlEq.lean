/- The layer AL, part 4b: structs compared, field by field. No condition. -/
import Derived.Test.YtkfkdmefabefkaaAlSound
import Derived.Laws.StructEq
namespace Go.AL
open Go Go.RowKit

def eqv1 : AV → AV → Option Bool
  | .v (.int k a), .v (.int k' b) => if k = k' then some (decide (a = b)) else none
  | .v (.bool a), .v (.bool b) => some (decide (a = b))
  | .v (.string a), .v (.string b) => some (seqB a b)
  | _, _ => none
def eqvs : List AV → List AV → Option Bool
  | [], [] => some true
  | x :: xs, y :: ys => match eqv1 x y, eqvs xs ys with
    | some a, some b => some (a && b)
    | _, _ => none
  | _, _ => none
/-- Is a scalar of the fitting kind. -/
def fitv (d : Option TypeDesc) : AV → Bool
  | .v (.int _ _) => match d with | some (.int _) => true | _ => false
  | .v (.bool _) => match d with | some .bool => true | _ => false
  | .v (.string _) => match d with | some .string => true | _ => false
  | _ => false
inductive SK where | int | bool | str
def SK.fits : SK → AV → Bool
  | .int, .v (.int _ _) => true
  | .bool, .v (.bool _) => true
  | .str, .v (.string _) => true
  | _, _ => false
def fitss : List SK → List AV → Bool
  | [], [] => true
  | k :: ks, x :: xs => k.fits x && fitss ks xs
  | _, _ => false
def skOf (P : Program) (t : TypeId) : Option SK :=
  match P.underlying t with
  | some (.int _) => some .int
  | some .bool => some .bool
  | some .string => some .str
  | _ => none
def plainFs (P : Program) : Nat → List Field → Option (List SK)
  | _, [] => some []
  | i, f :: fs => if f.name ≠ "_" ∧ f.offset = i then match skOf P f.type, plainFs P (i + 1) fs with
      | some k, some ks => some (k :: ks)
      | _, _ => none
    else none
/-- A struct whose fields are plain: their kinds. -/
def plainSt (P : Program) (t : TypeId) : Option (List SK) :=
  match P.underlying t with
  | some (.struct fs) => if P.stoodInHeld t = false ∧ P.eqGuardType P.depth t = false then plainFs P 0 fs.toList else none
  | _ => none
def aEq (P : Program) (op : BinOp) (t : TypeId) (x y : AV) : Option (Prop × AV) :=
  match x, y with
  | .agg xs, .agg ys => match plainSt P t, eqvs xs ys with
    | some ks, some r => match op with
      | .eql => some (fitss ks xs = true, ab r)
      | .neq => some (fitss ks xs = true, ab (!r))
      | _ => none
    | _, _ => none
  | _, _ => aBin P op t x y

section
variable {P : Program} {w : World} {A : Foot}
theorem run_part1 {t : TypeId} {k : SK} (hk : skOf P t = some k) {us : Array Value} {i : Nat} {u : Value} (hu : us[i]? = some u) : (part t us i).run P w = .ok u w := by
  unfold skOf at hk
  have hd : ∃ d, P.underlying t = some d ∧ (∀ n e, d ≠ .array n e) ∧ (∀ f, d ≠ .struct f) ∧ ∀ fs, d ≠ .tuple fs := by
    split at hk
    · rename_i h; exact ⟨_, h, by simp, by simp, by simp⟩
    · rename_i h; exact ⟨_, h, by simp, by simp, by simp⟩
    · rename_i h; exact ⟨_, h, by simp, by simp, by simp⟩
    · cases hk
  obtain ⟨d, hd, h1, h2, h3⟩ := hd
  have hagg : (isAgg t).run P w = .ok false w := by
    unfold isAgg
    rw [Sem.run_bind, run_underlying hd, Result.andThen_ok]
    cases d <;> first | rfl | exact absurd rfl (h1 _ _) | exact absurd rfl (h2 _) | exact absurd rfl (h3 _)
  simp [part, hagg, hu]

theorem eqv1_ok {t : TypeId} {k : SK} (hk : skOf P t = some k) {x y : AV} {r : Bool} (h : eqv1 x y = some r) (hf : k.fits x = true) {u v : Value} (hu : Rel w A x u) (hv : Rel w A y v) (d : Nat) :
    (Op.equalIn (d + 1) t u v).run P w = .ok r w := by
  unfold skOf at hk
  unfold eqv1 at h
  split at h
  · obtain rfl := hu.inv_v; obtain rfl := hv.inv_v
    split at h <;> cases h
    rename_i e; subst e
    split at hk <;> cases hk <;> first | (rename_i hd; rw [run_equalIn_int (P := P) w d t _ _ _ _ hd]; simp [BEq.beq]) | simp [SK.fits] at hf
  · obtain rfl := hu.inv_v; obtain rfl := hv.inv_v
    cases h
    split at hk <;> cases hk <;> first | (rename_i hd; rw [run_equalIn_bool' (P := P) w d t _ _ hd]; congr 1) | simp [SK.fits] at hf
  · obtain rfl := hu.inv_v; obtain rfl := hv.inv_v
    cases h
    split at hk <;> cases hk <;> first | (rename_i hd; rw [run_equalIn_string (P := P) w d t _ _ hd]; rfl) | simp [SK.fits] at hf
  · cases h

theorem eqFields_ok (d : Nat) {us vs : Array Value} : ∀ (fs : List Field) (ks : List SK) (i : Nat) (xs ys : List AV) (r : Bool), plainFs P i fs = some ks → eqvs xs ys = some r → fitss ks xs = true →
    (∀ (j : Nat) x, xs[j]? = some x → ∃ u, us[i + j]? = some u ∧ Rel w A x u) → (∀ (j : Nat) y, ys[j]? = some y → ∃ v, vs[i + j]? = some v ∧ Rel w A y v) →
    (Op.eqFields (d + 1) us vs fs).run P w = .ok r w
  | [], ks, i, xs, ys, r, hp, he, hf, hx, hy => by
    simp only [plainFs] at hp; cases hp
    cases xs with
    | nil => cases ys with
      | nil => simp only [eqvs] at he; cases he; rfl
      | cons y ys => simp [eqvs] at he
    | cons x xs => simp [fitss] at hf
  | f :: fs, ks, i, xs, ys, r, hp, he, hf, hx, hy => by
    simp only [plainFs] at hp
    split at hp
    · rename_i hc
      split at hp
      · rename_i k ks' hk hks
        cases hp
        cases xs with
        | nil => simp [fitss] at hf
        | cons x xs => cases ys with
          | nil => simp [eqvs] at he
          | cons y ys =>
            simp only [eqvs] at he
            split at he
            · rename_i a b ha hb
              cases he
              simp only [fitss, Bool.and_eq_true] at hf
              obtain ⟨u, hu, hru⟩ := hx 0 x rfl
              obtain ⟨v, hv, hrv⟩ := hy 0 y rfl
              have h1 := eqv1_ok hk ha hf.1 hru hrv d
              have h2 := eqFields_ok d fs ks' (i + 1) xs ys b hks hb hf.2 (fun j x hj => by have := hx (j + 1) x (by simpa using hj); simpa [Nat.add_assoc, Nat.add_comm 1 j] using this)
                (fun j x hj => by have := hy (j + 1) x (by simpa using hj); simpa [Nat.add_assoc, Nat.add_comm 1 j] using this)
              unfold Op.eqFields
              rw [if_pos hc.1]
              have hu' : us[f.offset]? = some u := by rw [hc.2]; exact hu
              have hv' : vs[f.offset]? = some v := by rw [hc.2]; exact hv
              simp only [Sem.run_bind, run_part1 hk hu', run_part1 hk hv', Result.andThen_ok, h1]
              cases a
              · simp
              · simpa using h2
            · cases he
      · cases hp
    · cases hp

theorem aEq_ok (op : BinOp) (t : TypeId) (ox oy : Operand) {y z : AV} {c : Prop} {x : AV} {yv zv : Value} (h : aEq P op t y z = some (c, x)) (hc : c) (hy : Rel w A y yv) (hz : Rel w A z zv) :
    ∃ u, (do eqGuard op t ox oy yv zv; binOp op t yv zv : Sem Value).run P w = .ok u w ∧ Rel w A x u := by
  unfold aEq at h
  split at h
  · rename_i xs ys
    split at h
    · rename_i ks r hpl he
      have hop : (op = .eql ∧ fitss ks xs = true ∧ x = ab r) ∨ (op = .neq ∧ fitss ks xs = true ∧ x = ab (!r)) := by
        split at h
        · cases h; exact .inl ⟨rfl, hc, rfl⟩
        · cases h; exact .inr ⟨rfl, hc, rfl⟩
        · cases h
      unfold plainSt at hpl
      split at hpl
      · rename_i fs hu
        split at hpl
        · rename_i hcc
          cases hy with | agg _ us hn hh =>
          cases hz with | agg _ vs hn' hh' =>
          have hfs : P.fieldsOf t = fs := by simp [Program.fieldsOf, hu]
          have hrun : fitss ks xs = true → (Op.equalIn 10000 t (.agg us) (.agg vs)).run P w = .ok r w := fun hf => by
            rw [show (10000 : Nat) = 9999 + 1 from rfl, run_equalIn_struct w 9999 t us vs (by rw [hfs]; exact hu) hcc.1, hfs]
            exact eqFields_ok (A := A) 9998 fs.toList ks 0 xs ys r hpl he hf (fun j x hj => by
              have hlt : j < us.size := by have := (List.getElem?_eq_some_iff.1 hj).1; omega
              rw [Nat.zero_add]; exact ⟨us[j], Array.getElem?_eq_getElem hlt, hh j x _ hj (Array.getElem?_eq_getElem hlt)⟩)
              (fun j x hj => by
              have hlt : j < vs.size := by have := (List.getElem?_eq_some_iff.1 hj).1; omega
              rw [Nat.zero_add]; exact ⟨vs[j], Array.getElem?_eq_getElem hlt, hh' j x _ hj (Array.getElem?_eq_getElem hlt)⟩)
          rcases hop with ⟨rfl, hf, rfl⟩ | ⟨rfl, hf, rfl⟩
          · exact ⟨_, by rw [Sem.run_bind, run_eqGuard_agg w _ _ _ _ _ _ hcc.2, Result.andThen_ok, run_eql_struct, hrun hf, Result.andThen_ok], .v _⟩
          · exact ⟨_, by rw [Sem.run_bind, run_eqGuard_agg w _ _ _ _ _ _ hcc.2, Result.andThen_ok, run_neq_struct, hrun hf, Result.andThen_ok], .v _⟩
        · cases hpl
      · cases hpl
    · cases h
  · exact aBin_ok op t ox oy h hc hy hz
end
end Go.AL
