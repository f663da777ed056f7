/- The layer AL, part 10: statements (regions): plain ones, in the order of the text; and those that draw their order. No condition. -/
import Derived.Test.YtkfkdmefabefkaaAlStep
namespace Go.AL
open Go Go.RowKit

def gval (ops : List Oper) (ρ : Env) (j : Nat) (want : Bool) : Option Bool :=
  match ops[j]? with
  | some o => match o.dst with
    | some d => match get ρ d with
      | .v (.bool b) => some b
      | .cond c (.v (.bool b)) => some (if c then b else !want)
      | _ => none
    | none => none
  | none => none

/-- A guarded operation: both outcomes are told at once where that can be. -/
def aguard (C : Cfg) (o : Oper) (b want : Bool) (ρ : Env) (L : AHeap) (K : ARes) : Prop :=
  match aval C.P ρ L o.op with
  | some (c, x) => (b = want → c) ∧ K (put ρ o.dst (.cond (b == want) x)) L
  | none => match o.op with
    | .call c => match c.callee with
      | .value g => GCall C.P (b = want) ((fo (ev ρ g)).1 ∧ fos (c.args.toList.map (ev ρ))) (fo (ev ρ g)).2 (c.args.toList.map fun x => (fo (ev ρ x)).2) L (putC K ρ o.dst (b == want) L)
      | _ => (b = want → aop2 C o ρ L K) ∧ (b ≠ want → K (put ρ o.dst .any) L)
    | _ => (b = want → aop2 C o ρ L K) ∧ (b ≠ want → K (put ρ o.dst .any) L)

def astep (C : Cfg) (all : List Oper) (o : Oper) (ρ : Env) (L : AHeap) (K : ARes) : Prop :=
  match o.guard with
  | none => aop C o ρ L K
  | some (j, want) => match gval all ρ j want with
    | some b => aguard C o b want ρ L K
    | none => False
def aregion (C : Cfg) (all : List Oper) : List Oper → Env → AHeap → ARes → Prop
  | [], ρ, L, K => K ρ L
  | o :: rest, ρ, L, K => astep C all o ρ L fun ρ L => aregion C all rest ρ L K

def aregK (C : Cfg) (all rest : List Oper) (K : ARes) (ρ : Env) (L : AHeap) : Prop := aregion C all rest ρ L K
theorem aregion_nil (C : Cfg) (all : List Oper) (ρ : Env) (L : AHeap) (K : ARes) : aregion C all [] ρ L K = K ρ L := rfl
theorem aregion_cons (C : Cfg) (all rest : List Oper) (o : Oper) (ρ : Env) (L : AHeap) (K : ARes) : aregion C all (o :: rest) ρ L K = astep C all o ρ L (aregK C all rest K) := rfl
/-- What is asked of the text alone: every slot is one of the function's, and nothing is deferred. -/
def operOk (N : Nat) (o : Oper) : Bool :=
  (match o.dst with | some d => decide (d < N) | none => true) && (match o.op with | .defer _ => false | .select _ _ => false | _ => true)
theorem operOk_dst {C : Cfg} {o : Oper} (h : operOk C.N o = true) : dstOk C o := fun i hi => by
  simp only [operOk, hi, Bool.and_eq_true, decide_eq_true_eq] at h; exact h.1
theorem operOk_def {N : Nat} {o : Oper} (h : operOk N o = true) : ∀ c, o.op ≠ .defer c := fun c e => by
  simp [operOk, e] at h

theorem st_env {w0 : World} {M A0 : Foot} {N : Nat} {ρ ρ' : Env} {L : AHeap} {a : Act} {w : World} (h : St w0 M A0 N ρ L a w) (hr : ∀ i A u, Rel w A (get ρ i) u → Rel w A (get ρ' i) u) : St w0 M A0 N ρ' L a w := by
  obtain ⟨A, ds, h⟩ := st_iff.1 h
  exact st_iff.2 ⟨A, ds, { h with env := fun i => hr i _ _ (h.env i) }⟩

/-- One operation of a region comes up. -/
def GOp (C : Cfg) (ops : Array Oper) (i : Nat) (ρ : Env) (L : AHeap) (K : ARes) : Prop :=
  ∀ n w0 M A0 a w (Qx : Exit → Act → World → Prop), St w0 M A0 C.N ρ L a w → wpOpIn (Fw C.r) n C.P ops Qx i (post w0 M A0 C.N K) a w

theorem AOp.gop {C : Cfg} {ops : Array Oper} {i : Nat} {o : Oper} {ρ : Env} {L : AHeap} {K : ARes} (hi : ops[i]? = some o) (hg : o.guard = none) (h : AOp C o ρ L K) : GOp C ops i ρ L K := by
  intro n w0 M A0 a w Qx hs
  unfold wpOpIn
  simp only [hi]
  rw [if_pos (by simp [Region.wanted, hg])]
  exact h n w0 M A0 a w Qx hs

theorem gval_ok {ops : Array Oper} {ρ : Env} {o : Oper} {j : Nat} {want b : Bool} (hg : o.guard = some (j, want)) (h : gval ops.toList ρ j want = some b) {w0 : World} {M A0 : Foot} {N : Nat} {L : AHeap} {a : Act} {w : World} (hs : St w0 M A0 N ρ L a w) :
    Region.wanted o (yielded ops a.tmps) = decide (b = want) := by
  obtain ⟨A, ds, hs⟩ := st_iff.1 hs
  have key : ∀ oj d, ops[j]? = some oj → oj.dst = some d → yielded ops a.tmps j = match a.tmps.getD d undef with | .bool b => some b | _ => none := fun oj d h1 h2 => by
    unfold yielded
    simp only [h1, Option.bind_some, h2]
    by_cases hlt : d < a.tmps.size
    · have e : a.tmps.getD d undef = a.tmps[d] := by simp [Array.getD, hlt]
      rw [Array.getElem?_eq_getElem hlt, e]
      generalize a.tmps[d] = u
      cases u <;> rfl
    · have e : a.tmps.getD d undef = undef := by simp [Array.getD, hlt]
      rw [Array.getElem?_eq_none (Nat.le_of_not_lt hlt), e]
      rfl
  unfold gval at h
  split at h
  · rename_i oj ho
    have ho' : ops[j]? = some oj := by simpa using ho
    split at h
    · rename_i d hd
      have hr := hs.env d
      have hk := key oj d ho' hd
      split at h
      · rename_i b' hget
        cases h
        rw [hget] at hr
        rw [hr.inv_v] at hk
        have hk : yielded ops a.tmps j = some b := hk
        simp [Region.wanted, hg, hk]
        cases b <;> cases want <;> rfl
      · rename_i c b' hget
        cases h
        rw [hget] at hr
        cases hr with
        | cond _ _ _ h1 h2 =>
          cases c with
          | true =>
            rw [(h1 rfl).inv_v] at hk
            have hk : yielded ops a.tmps j = some b' := hk
            simp [Region.wanted, hg, hk]
            cases b' <;> cases want <;> rfl
          | false =>
            rw [h2 rfl] at hk
            have hk : yielded ops a.tmps j = none := hk
            simp [Region.wanted, hg, hk]
      · cases h
    · cases h
  · cases h

theorem GOp.of_guard {C : Cfg} {ops : Array Oper} {i j : Nat} {o : Oper} {b want : Bool} {ρ : Env} {L : AHeap} {K : ARes} (hi : ops[i]? = some o) (hg : o.guard = some (j, want)) (hv : gval ops.toList ρ j want = some b) (hd : dstOk C o)
    (h1 : b = want → AOp C o ρ L K) (h2 : b ≠ want → K (put ρ o.dst (.v undef)) L) : GOp C ops i ρ L K := by
  intro n w0 M A0 a w Qx hs
  unfold wpOpIn
  simp only [hi]
  have hy := gval_ok hg hv hs
  by_cases hb : b = want
  · rw [if_pos (by rw [hy, decide_eq_true hb])]
    exact h1 hb n w0 M A0 a w Qx hs
  · rw [if_neg (by rw [hy, decide_eq_false hb]; simp)]
    obtain ⟨A, ds, hs⟩ := st_iff.1 hs
    exact ⟨fun f _ => trivial, post_mk (hs.put hd (.v _)) (h2 hb)⟩

theorem undef_any {w : World} {A : Foot} {ρ : Env} {d : Option Tmp} (i : Nat) (u : Value) (h : Rel w A (get (put ρ d (.v undef)) i) u) : Rel w A (get (put ρ d .any) i) u := by
  cases d with
  | none => exact h
  | some d =>
    simp only [put, get] at *
    split at h
    · rename_i e; rw [if_pos e]; exact .any _
    · rename_i e; rw [if_neg e]; exact h
theorem cond_true {w : World} {A : Foot} {ρ : Env} {d : Option Tmp} {x : AV} {c : Bool} (hc : c = true) (i : Nat) (u : Value) (h : Rel w A (get (put ρ d x) i) u) : Rel w A (get (put ρ d (.cond c x)) i) u := by
  cases d with
  | none => exact h
  | some d =>
    simp only [put, get] at *
    split at h
    · rename_i e; rw [if_pos e]; exact .cond _ _ _ (fun _ => h) (fun h => by rw [hc] at h; cases h)
    · rename_i e; rw [if_neg e]; exact h
theorem cond_false {w : World} {A : Foot} {ρ : Env} {d : Option Tmp} {x : AV} (i : Nat) (u : Value) (h : Rel w A (get (put ρ d (.v undef)) i) u) : Rel w A (get (put ρ d (.cond false x)) i) u := by
  cases d with
  | none => exact h
  | some d =>
    simp only [put, get] at *
    split at h
    · rename_i e; rw [if_pos e]; exact .cond _ _ _ (fun h => by cases h) (fun _ => h.inv_v)
    · rename_i e; rw [if_neg e]; exact h

theorem GOp.conv {C : Cfg} {ops : Array Oper} {i : Nat} {ρ : Env} {L : AHeap} {K K' : ARes} (h : GOp C ops i ρ L K) (hk : ∀ ρ' L' w0 M A0 a w, K ρ' L' → St w0 M A0 C.N ρ' L' a w → post w0 M A0 C.N K' a w) : GOp C ops i ρ L K' :=
  fun n w0 M A0 a w Qx hs => wpOpIn_mono (fun _ _ ⟨ρ', L', h1, h2⟩ => hk ρ' L' _ _ _ _ _ h1 h2) (h n w0 M A0 a w Qx hs)

theorem GOp.of_guard' {C : Cfg} {ops : Array Oper} {i j : Nat} {o : Oper} {b want : Bool} {ρ : Env} {L : AHeap} {K : ARes} (hi : ops[i]? = some o) (hg : o.guard = some (j, want)) (hv : gval ops.toList ρ j want = some b) (hd : dstOk C o)
    (h1 : b = want → AOp C o ρ L K) (h2 : b ≠ want → K (put ρ o.dst .any) L) : GOp C ops i ρ L K := by
  refine (GOp.of_guard (K := fun ρ' L' => K ρ' L' ∨ (ρ' = put ρ o.dst (.v undef) ∧ L' = L ∧ K (put ρ o.dst .any) L)) hi hg hv hd (fun h => (h1 h).mono fun _ _ h => .inl h) (fun h => .inr ⟨rfl, rfl, h2 h⟩)).conv ?_
  rintro ρ' L' w0 M A0 a w (h | ⟨rfl, rfl, h⟩) hs
  · exact ⟨_, _, h, hs⟩
  · exact ⟨_, _, h, st_env hs fun i A u h => undef_any i u h⟩

/-- A guarded operation that gives one value and leaves the memory as it is told. -/
theorem GOp.of_cond {C : Cfg} {ops : Array Oper} {i j : Nat} {o : Oper} {b want : Bool} {ρ : Env} {L : AHeap} {x : AV} (hi : ops[i]? = some o) (hg : o.guard = some (j, want)) (hv : gval ops.toList ρ j want = some b) (hd : dstOk C o)
    (h1 : b = want → AOp C o ρ L fun ρ' L' => ρ' = put ρ o.dst x ∧ L' = L) : GOp C ops i ρ L fun ρ' L' => ρ' = put ρ o.dst (.cond (b == want) x) ∧ L' = L := by
  by_cases hb : b = want
  · refine (GOp.of_guard (K := fun ρ' L' => ρ' = put ρ o.dst x ∧ L' = L) hi hg hv hd h1 (fun h => absurd hb h)).conv ?_
    rintro ρ' L' w0 M A0 a w ⟨rfl, rfl⟩ hs
    exact ⟨_, _, ⟨rfl, rfl⟩, st_env hs fun i A u h => cond_true (by simpa using hb) i u h⟩
  · refine (GOp.of_guard (K := fun ρ' L' => ρ' = put ρ o.dst (.v undef) ∧ L' = L) hi hg hv hd (fun h => absurd h hb) (fun _ => ⟨rfl, rfl⟩)).conv ?_
    rintro ρ' L' w0 M A0 a w ⟨rfl, rfl⟩ hs
    refine ⟨_, _, ⟨rfl, rfl⟩, st_env hs fun i A u h => ?_⟩
    rw [show (b == want) = false by simpa using hb]
    exact cond_false i u h

theorem aval_sound {C : Cfg} {o : Oper} {ρ : Env} {L : AHeap} {c : Prop} {x : AV} (hv : aval C.P ρ L o.op = some (c, x)) (hc : c) (hd : dstOk C o) (hdef : ∀ c, o.op ≠ .defer c) : AOp C o ρ L fun ρ' L' => ρ' = put ρ o.dst x ∧ L' = L :=
  AOp.val hd hdef (fun _ _ _ hρ hL => aval_ok hv hc hρ hL) ⟨rfl, rfl⟩
theorem call_sound {C : Cfg} {o : Oper} {ρ : Env} {L : AHeap} {g : Operand} {cl : Call} {r : AV} (ho : o.op = .call cl) (h0 : cl.callee = .value g) (hd : dstOk C o)
    (h : (fo (ev ρ g)).1 ∧ fos (cl.args.toList.map (ev ρ)) ∧ MVal C.P (fo (ev ρ g)).2 (cl.args.toList.map fun x => (fo (ev ρ x)).2) L fun r' L' => r' = r ∧ L' = L) : AOp C o ρ L fun ρ' L' => ρ' = put ρ o.dst r ∧ L' = L :=
  aCall_sound ho h0 hd ⟨h.1, h.2.1, h.2.2.mono fun r' L' ⟨e1, e2⟩ => by rw [e1]; exact ⟨rfl, e2⟩⟩

theorem aop2_sound {C : Cfg} {o : Oper} {ρ : Env} {L : AHeap} {K : ARes} (hd : dstOk C o) (h : aop2 C o ρ L K) : AOp C o ρ L K := by
  unfold aop2 at h
  split at h
  · rename_i t ho; exact aAlloc_sound ho hd h
  · rename_i t x ho; exact aBox_sound ho hd h
  · rename_i t len parts ho; exact aBuildSlice_sound ho hd h
  · rename_i t p x ho; exact aStore_sound ho hd h
  · rename_i t l c ho; exact aMakeSlice_sound ho hd h
  · rename_i t ho; exact aMakeMap_sound ho hd h
  · rename_i cl ho
    split at h
    · rename_i s x t t' h0 ha ht
      obtain ⟨rfl, h⟩ := h
      exact aAppend_sound ho h0 ha ht hd h
    · rename_i s x t t' h0 ha ht
      exact aCopy_sound ho h0 ha ht hd h
    · rename_i g l _ h0
      exact aCall_sound ho h0 hd h
    · exact h
  · rename_i ho; exact aNilCmp_sound ho hd h
  · rename_i ho; exact aMapUpdate_sound ho hd h
  · exact h

theorem astep_sound {C : Cfg} {ops : Array Oper} {i : Nat} {o : Oper} {ρ : Env} {L : AHeap} {K : ARes} (hi : ops[i]? = some o) (hok : operOk C.N o = true) (h : astep C ops.toList o ρ L K) : GOp C ops i ρ L K := by
  have hd := operOk_dst hok
  have hdef := operOk_def hok
  unfold astep at h
  split at h
  · rename_i hg; exact AOp.gop hi hg (aop_sound hd hdef h)
  · rename_i j want hg
    split at h
    · rename_i b hv
      unfold aguard at h
      split at h
      · rename_i c x ha
        refine (GOp.of_cond hi hg hv hd fun hb => aval_sound ha (h.1 hb) hd hdef).conv ?_
        rintro ρ' L' w0 M A0 a w ⟨rfl, rfl⟩ hs
        exact ⟨_, _, h.2, hs⟩
      · split at h
        · rename_i cl ho
          split at h
          · rename_i g h0
            obtain ⟨r, h1, h2⟩ := h
            refine (GOp.of_cond hi hg hv hd fun hb => call_sound ho h0 hd ⟨(h1 hb).1.1, (h1 hb).1.2, (h1 hb).2⟩).conv ?_
            rintro ρ' L' w0 M A0 a w ⟨rfl, rfl⟩ hs
            exact ⟨_, _, h2, hs⟩
          · exact GOp.of_guard' hi hg hv hd (fun hb => aop2_sound hd (h.1 hb)) h.2
        · exact GOp.of_guard' hi hg hv hd (fun hb => aop2_sound hd (h.1 hb)) h.2
    · exact h.elim

theorem astep_mono {C : Cfg} {all : List Oper} {o : Oper} {ρ : Env} {L : AHeap} {K K' : ARes} (hk : ∀ ρ L, K ρ L → K' ρ L) (h : astep C all o ρ L K) : astep C all o ρ L K' := by
  have m2 : ∀ {ρ L}, aop2 C o ρ L K → (∀ c x, aval C.P ρ L o.op ≠ some (c, x)) → aop2 C o ρ L K' := fun {ρ L} h hn => by
    have h1 : aop C o ρ L K := by
      unfold aop; split
      · rename_i c x hv; exact absurd hv (hn c x)
      · exact h
    have h2 := aop_mono hk h1
    unfold aop at h2; split at h2
    · rename_i c x hv; exact absurd hv (hn c x)
    · exact h2
  unfold astep at *
  split at h
  · exact aop_mono hk h
  · split at h
    · unfold aguard at *
      split at h
      · exact ⟨h.1, hk _ _ h.2⟩
      · rename_i hn
        have hn' : ∀ c x, aval C.P ρ L o.op ≠ some (c, x) := fun c x e => by rw [hn] at e; cases e
        split at h
        · split at h
          · obtain ⟨r, h1, h2⟩ := h; exact ⟨r, h1, hk _ _ h2⟩
          · exact ⟨fun hb => m2 (h.1 hb) hn', fun hb => hk _ _ (h.2 hb)⟩
        · exact ⟨fun hb => m2 (h.1 hb) hn', fun hb => hk _ _ (h.2 hb)⟩
    · exact h
theorem aregion_mono {C : Cfg} {all : List Oper} {K K' : ARes} (hk : ∀ ρ L, K ρ L → K' ρ L) : ∀ (l : List Oper) (ρ : Env) (L : AHeap), aregion C all l ρ L K → aregion C all l ρ L K'
  | [], _, _, h => hk _ _ h
  | _ :: l, _, _, h => astep_mono (fun ρ L h => aregion_mono hk l ρ L h) h

theorem aregion_sound {C : Cfg} {ops : Array Oper} {K : ARes} {n : Nat} {w0 : World} {M A0 : Foot} {Q : Exit → Act → World → Prop} (hQ : ∀ a w, post w0 M A0 C.N K a w → Q .normal a w) (hok : ops.toList.all (operOk C.N) = true) :
    ∀ (l : List Oper) (k : Nat), (∀ j, l[j]? = ops[k + j]?) → ∀ (ρ : Env) (L : AHeap) (a : Act) (w : World), aregion C ops.toList l ρ L K → St w0 M A0 C.N ρ L a w → wpOpsIn (Fw C.r) n C.P ops Q (List.range' k l.length) a w
  | [], k, _, ρ, L, a, w, h, hs => hQ a w ⟨ρ, L, h, hs⟩
  | o :: l, k, hl, ρ, L, a, w, h, hs => by
    have h0 : ops[k]? = some o := by simpa using (hl 0).symm
    have ho : operOk C.N o = true := List.all_eq_true.1 hok o (List.mem_of_getElem? (by simpa using h0))
    rw [List.length_cons, List.range'_succ, wpOpsIn_cons]
    refine wpOpIn_mono ?_ (astep_sound h0 ho h n w0 M A0 a w Q hs)
    rintro a' w' ⟨ρ', L', h1, h2⟩
    exact aregion_sound hQ hok l (k + 1) (fun j => by have := hl (j + 1); simpa [Nat.add_assoc, Nat.add_comm 1 j] using this) ρ' L' a' w' h1 h2

end Go.AL
