/- The layer AL, part 18: maps whose keys are numbers, truth values, strings, or structs of such. No condition. -/
import Derived.Test.YtkfkdmefabefkaaAlEq
namespace Go.AL
open Go Go.RowKit

def SK.vfits : SK → Value → Bool
  | .int, .int k _ => decide (k = .i64)
  | .bool, .bool _ => true
  | .str, .string _ => true
  | _, _ => false
def vfitss : List SK → List Value → Bool
  | [], [] => true
  | k :: ks, x :: xs => k.vfits x && vfitss ks xs
  | _, _ => false
inductive KK where
  | sc (k : SK)
  | st (ks : List SK)
def kkOf (P : Program) (t : TypeId) : Option KK :=
  match plainSt P t with
  | some ks => some (.st ks)
  | none => match skOf P t with
    | some k => some (.sc k)
    | none => none
def KK.fits : KK → Value → Bool
  | .sc k, v => k.vfits v
  | .st ks, .agg us => vfitss ks us.toList
  | _, _ => false
def veq : Value → Value → Bool
  | .int _ a, .int _ b => decide (a = b)
  | .bool a, .bool b => decide (a = b)
  | .string a, .string b => seqB a b
  | _, _ => false
def veqs : List Value → List Value → Bool
  | [], [] => true
  | x :: xs, y :: ys => veq x y && veqs xs ys
  | _, _ => false
def keyB : Value → Value → Bool
  | .agg us, .agg vs => veqs us.toList vs.toList
  | a, b => veq a b
def mfind (k : Value) : List Value → Option Nat
  | [] => none
  | k' :: r => if keyB k k' then some 0 else match mfind k r with
    | some i => some (i + 1)
    | none => none

theorem seqB_eq {a b : ByteArray} (h : seqB a b = true) : a = b := by
  unfold seqB at h
  have h1 : a.toList = b.toList := by simpa using h
  rw [ByteArray.toList_eq, ByteArray.toList_eq] at h1
  obtain ⟨⟨x⟩⟩ := a
  obtain ⟨⟨y⟩⟩ := b
  have h1 : x = y := h1
  rw [h1]
inductive VFits : SK → Value → Prop
  | int (n : Int) : VFits .int (.int .i64 n)
  | bool (b : Bool) : VFits .bool (.bool b)
  | str (s : ByteArray) : VFits .str (.string s)
theorem vfits_inv {k : SK} {a : Value} (h : k.vfits a = true) : VFits k a := by
  unfold SK.vfits at h
  split at h
  · rename_i kd n; rw [of_decide_eq_true h]; exact .int n
  · exact .bool _
  · exact .str _
  · cases h
theorem veq_eq {k : SK} {a b : Value} (ha : k.vfits a = true) (hb : k.vfits b = true) (h : veq a b = true) : a = b := by
  cases vfits_inv ha with
  | int n => cases vfits_inv hb with | int m => simp only [veq, decide_eq_true_eq] at h; rw [h]
  | bool n => cases vfits_inv hb with | bool m => simp only [veq, decide_eq_true_eq] at h; rw [h]
  | str n => cases vfits_inv hb with | str m => simp only [veq] at h; rw [seqB_eq h]
theorem veqs_eq : ∀ {ks : List SK} {a b : List Value}, vfitss ks a = true → vfitss ks b = true → veqs a b = true → a = b
  | [], [], [], _, _, _ => rfl
  | k :: ks, x :: xs, y :: ys, ha, hb, h => by
    simp only [vfitss, veqs, Bool.and_eq_true] at ha hb h
    rw [veq_eq ha.1 hb.1 h.1, veqs_eq ha.2 hb.2 h.2]
  | [], [], _ :: _, _, hb, _ => by simp [vfitss] at hb
  | [], _ :: _, _, ha, _, _ => by simp [vfitss] at ha
  | _ :: _, [], _, ha, _, _ => by simp [vfitss] at ha
  | _ :: _, _ :: _, [], _, hb, _ => by simp [vfitss] at hb
theorem fits_st {ks : List SK} {a : Value} (h : (KK.st ks).fits a = true) : ∃ us, a = .agg us ∧ vfitss ks us.toList = true := by
  cases a <;> first | exact ⟨_, rfl, h⟩ | (simp [KK.fits] at h)
theorem keyB_eq {κ : KK} {a b : Value} (ha : κ.fits a = true) (hb : κ.fits b = true) (h : keyB a b = true) : a = b := by
  cases κ with
  | sc k =>
    simp only [KK.fits] at ha hb
    have : keyB a b = veq a b := by cases vfits_inv ha <;> rfl
    exact veq_eq ha hb (this ▸ h)
  | st ks =>
    obtain ⟨us, rfl, h1⟩ := fits_st ha
    obtain ⟨vs, rfl, h2⟩ := fits_st hb
    simp only [keyB] at h
    rw [show us = vs from Array.ext' (veqs_eq h1 h2 h)]

theorem sameBits_veq {k : SK} {a : Value} (ha : k.vfits a = true) (n : Nat) : Instr.sameBits n a a = true := by
  cases vfits_inv ha <;> cases n <;> simp [Instr.sameBits, beq_toListBytes]
theorem sameBits_all : ∀ {ks : List SK} {a : List Value}, vfitss ks a = true → ∀ n, ((a.zip a).all fun (x, y) => Instr.sameBits n x y) = true
  | [], [], _, _ => rfl
  | k :: ks, x :: xs, ha, n => by
    simp only [vfitss, Bool.and_eq_true] at ha
    simp only [List.zip_cons_cons, List.all_cons, Bool.and_eq_true]
    exact ⟨sameBits_veq ha.1 n, sameBits_all ha.2 n⟩
  | [], _ :: _, ha, _ => by simp [vfitss] at ha
  | _ :: _, [], ha, _ => by simp [vfitss] at ha
theorem sameBits_agg {us : Array Value} {ks : List SK} (h : vfitss ks us.toList = true) (n : Nat) : Instr.sameBits (n + 1) (.agg us) (.agg us) = true := by
  simp only [Instr.sameBits, BEq.rfl, Bool.true_and]
  exact sameBits_all h n
theorem sameBits_fits {κ : KK} {a : Value} (ha : κ.fits a = true) (n : Nat) : Instr.sameBits (n + 1) a a = true := by
  cases κ with
  | sc k => exact sameBits_veq ha _
  | st ks => obtain ⟨us, rfl, h⟩ := fits_st ha; exact sameBits_agg h n

section
variable {P : Program} {w : World}
theorem kk_cases {t : TypeId} {κ : KK} (h : kkOf P t = some κ) : (∃ ks, κ = .st ks ∧ plainSt P t = some ks) ∨ ∃ k, κ = .sc k ∧ skOf P t = some k := by
  unfold kkOf at h
  split at h
  · rename_i ks hp; cases h; exact .inl ⟨ks, rfl, hp⟩
  · split at h
    · rename_i k hk; cases h; exact .inr ⟨k, rfl, hk⟩
    · cases h

theorem eqv1_v {k : SK} {a b : Value} (ha : k.vfits a = true) (hb : k.vfits b = true) : eqv1 (.v a) (.v b) = some (veq a b) ∧ k.fits (.v a) = true := by
  cases vfits_inv ha <;> cases vfits_inv hb <;> exact ⟨by simp [eqv1, veq], rfl⟩
theorem eqvs_v : ∀ {ks : List SK} {a b : List Value}, vfitss ks a = true → vfitss ks b = true → eqvs (a.map .v) (b.map .v) = some (veqs a b) ∧ fitss ks (a.map .v) = true
  | [], [], [], _, _ => ⟨rfl, rfl⟩
  | k :: ks, x :: xs, y :: ys, ha, hb => by
    simp only [vfitss, Bool.and_eq_true] at ha hb
    obtain ⟨h1, h2⟩ := eqv1_v ha.1 hb.1
    obtain ⟨h3, h4⟩ := eqvs_v ha.2 hb.2
    exact ⟨by simp only [List.map_cons, eqvs, h1, h3, veqs], by simp only [List.map_cons, fitss, h2, h4, Bool.and_self]⟩
  | [], [], _ :: _, _, hb => by simp [vfitss] at hb
  | [], _ :: _, _, ha, _ => by simp [vfitss] at ha
  | _ :: _, [], _, ha, _ => by simp [vfitss] at ha
  | _ :: _, _ :: _, [], _, hb => by simp [vfitss] at hb

theorem plainSt_inv {t : TypeId} {ks : List SK} (h : plainSt P t = some ks) : ∃ fs, P.underlying t = some (.struct fs) ∧ P.stoodInHeld t = false ∧ P.eqGuardType P.depth t = false ∧ plainFs P 0 fs.toList = some ks := by
  unfold plainSt at h
  split at h
  · rename_i fs hu
    split at h
    · rename_i hc; exact ⟨fs, hu, hc.1, hc.2, h⟩
    · cases h
  · cases h

theorem key_equal {t : TypeId} {ks : List SK} (hp : plainSt P t = some ks) {us vs : Array Value} (ha : vfitss ks us.toList = true) (hb : vfitss ks vs.toList = true) : (Op.equal t (.agg us) (.agg vs)).run P w = .ok (veqs us.toList vs.toList) w := by
  obtain ⟨fs, hu, h1, h2, h3⟩ := plainSt_inv hp
  obtain ⟨h4, h5⟩ := eqvs_v ha hb
  have hfs : P.fieldsOf t = fs := by simp [Program.fieldsOf, hu]
  unfold Op.equal
  rw [show Op.maxDepth = 9999 + 1 from rfl, run_equalIn_struct w 9999 t us vs (by rw [hfs]; exact hu) h1, hfs]
  refine eqFields_ok (A := fun _ => False) 9998 fs.toList ks 0 _ _ _ h3 h4 h5 (fun j x hj => ?_) (fun j x hj => ?_)
  · rw [List.getElem?_map] at hj
    cases hu' : us.toList[j]? with
    | none => rw [hu'] at hj; cases hj
    | some u => rw [hu'] at hj; cases hj; exact ⟨u, by simpa using hu', .v _⟩
  · rw [List.getElem?_map] at hj
    cases hu' : vs.toList[j]? with
    | none => rw [hu'] at hj; cases hj
    | some u => rw [hu'] at hj; cases hj; exact ⟨u, by simpa using hu', .v _⟩

theorem sameNow_ok {t : TypeId} {k : SK} (hk : skOf P t = some k) {a b : Value} (ha : k.vfits a = true) (hb : k.vfits b = true) : ∃ d, P.underlying t = some d ∧ Instr.sameNow d a b = some (keyB a b) := by
  unfold skOf at hk
  split at hk <;> cases hk
  · rename_i hd
    refine ⟨_, hd, ?_⟩
    cases vfits_inv ha; cases vfits_inv hb
    simp [Instr.sameNow, keyB, veq, BEq.beq]
  · rename_i hd
    refine ⟨_, hd, ?_⟩
    cases vfits_inv ha; cases vfits_inv hb
    simp only [Instr.sameNow, keyB, veq]; rfl
  · rename_i hd
    refine ⟨_, hd, ?_⟩
    cases vfits_inv ha; cases vfits_inv hb
    simp only [Instr.sameNow, keyB, veq, seqB, beq_toListBytes]

/-- What a search gives: the place of the key, and what lies there. -/
theorem findKey_ok {t : TypeId} {κ : KK} (hκ : kkOf P t = some κ) {a : Value} (ha : κ.fits a = true) (es : List MapEntry) (hes : ∀ e ∈ es, κ.fits e.key = true) :
    ∃ r, (Instr.findKey t a es).run P w = .ok r w ∧ r.map (·.1) = mfind a (es.map (·.key)) ∧ ∀ i v, r = some (i, v) → ∃ e, es[i]? = some e ∧ v = e.val := by
  rcases kk_cases hκ with ⟨ks, rfl, hp⟩ | ⟨k, rfl, hk⟩
  · obtain ⟨fs, hu, -⟩ := plainSt_inv hp
    have asking : ∀ (es : List MapEntry) (i : Nat), (∀ e ∈ es, (KK.st ks).fits e.key = true) → ∃ r, (Instr.findAsking t a es i).run P w = .ok r w ∧ r.map (·.1) = (mfind a (es.map (·.key))).map (i + ·) ∧ ∀ j v, r = some (j, v) → ∃ m e, j = i + m ∧ es[m]? = some e ∧ v = e.val := by
      intro es
      induction es with
      | nil => intro i _; exact ⟨none, rfl, rfl, fun j v h => by cases h⟩
      | cons e es ih =>
        intro i hes
        have he := hes e List.mem_cons_self
        obtain ⟨us, hau, ha'⟩ := fits_st ha
        obtain ⟨vs, hek, he'⟩ := fits_st he
        have heq := key_equal (w := w) hp ha' he'
        have hkb : keyB a e.key = veqs us.toList vs.toList := by rw [hek, hau]; rfl
        simp only [Instr.findAsking, List.map_cons, mfind, hkb]
        rw [hek, hau]
        simp only [Sem.run_bind, heq, Result.andThen_ok]
        rw [← hau]
        cases hv : veqs us.toList vs.toList
        · simp only [Bool.false_eq_true, if_false]
          obtain ⟨r, h3, h4, h5⟩ := ih (i + 1) (fun e he => hes e (List.mem_cons_of_mem _ he))
          refine ⟨r, h3, ?_, fun j v hr => ?_⟩
          · rw [h4]; cases mfind a (es.map (·.key)) <;> simp; omega
          · obtain ⟨m, e', h6, h7, h8⟩ := h5 j v hr; exact ⟨m + 1, e', by omega, by simpa using h7, h8⟩
        · simp only [if_true]
          exact ⟨some (i, e.val), rfl, by simp, fun j v hr => by cases hr; exact ⟨0, e, rfl, rfl, rfl⟩⟩
    obtain ⟨r, h1, h2, h3⟩ := asking es 0 hes
    have hr0 : r.map (·.1) = mfind a (es.map (·.key)) := by rw [h2]; cases mfind a (es.map (·.key)) <;> simp
    have h30 : ∀ i v, r = some (i, v) → ∃ e, es[i]? = some e ∧ v = e.val := fun i v hr => by obtain ⟨m, e, h4, h5, h6⟩ := h3 i v hr; exact ⟨e, by rw [h4, Nat.zero_add]; exact h5, h6⟩
    unfold Instr.findKey
    simp only [Sem.run_bind, run_underlying hu, Result.andThen_ok]
    cases es with
    | nil => exact ⟨none, rfl, rfl, fun i v h => by cases h⟩
    | cons e es =>
      have : Instr.findNow (.struct fs) a (e :: es) 0 = none := by simp [Instr.findNow, Instr.sameNow]
      rw [this]
      exact ⟨r, h1, hr0, h30⟩
  · have hd : ∃ d, P.underlying t = some d := by
      unfold skOf at hk; split at hk <;> first | exact ⟨_, by assumption⟩ | cases hk
    obtain ⟨d, hd⟩ := hd
    have now : ∀ (es : List MapEntry) (i : Nat), (∀ e ∈ es, (KK.sc k).fits e.key = true) → ∃ r, Instr.findNow d a es i = some r ∧ r.map (·.1) = (mfind a (es.map (·.key))).map (i + ·) ∧ ∀ j v, r = some (j, v) → ∃ m e, j = i + m ∧ es[m]? = some e ∧ v = e.val := by
      intro es
      induction es with
      | nil => intro i _; exact ⟨none, rfl, rfl, fun j v h => by cases h⟩
      | cons e es ih =>
        intro i hes
        obtain ⟨d', hd', hs⟩ := sameNow_ok hk ha (hes e List.mem_cons_self)
        rw [hd] at hd'; cases hd'
        simp only [Instr.findNow, hs, List.map_cons, mfind]
        cases hv : keyB a e.key
        · simp only [Bool.false_eq_true, if_false]
          obtain ⟨r, h3, h4, h5⟩ := ih (i + 1) (fun e he => hes e (List.mem_cons_of_mem _ he))
          refine ⟨r, h3, ?_, fun j v hr => ?_⟩
          · rw [h4]; cases mfind a (es.map (·.key)) <;> simp; omega
          · obtain ⟨m, e', h6, h7, h8⟩ := h5 j v hr; exact ⟨m + 1, e', by omega, by simpa using h7, h8⟩
        · simp only [if_true]
          exact ⟨some (i, e.val), rfl, by simp, fun j v hr => by cases hr; exact ⟨0, e, rfl, rfl, rfl⟩⟩
    obtain ⟨r, h1, h2, h3⟩ := now es 0 hes
    refine ⟨r, ?_, by rw [h2]; cases mfind a (es.map (·.key)) <;> simp, fun i v hr => by obtain ⟨m, e, h4, h5, h6⟩ := h3 i v hr; exact ⟨e, by rw [h4, Nat.zero_add]; exact h5, h6⟩⟩
    unfold Instr.findKey
    simp only [Sem.run_bind, run_underlying hd, Result.andThen_ok, h1, Sem.run_pure]

theorem checkKey_sc {t : TypeId} {k : SK} (hk : skOf P t = some k) (em : Bool) (n : Nat) (a : Value) : (Instr.checkKey em (n + 1) t a).run P w = .ok () w := by
  unfold skOf at hk
  split at hk <;> first | (rename_i hd; simp only [Instr.checkKey, Sem.run_bind, run_underlying hd, Result.andThen_ok]; rfl) | cases hk
theorem checkFields_ok (em : Bool) (n : Nat) (us : Array Value) : ∀ (fs : List Field) (ks : List SK) (i : Nat), plainFs P i fs = some ks → i + ks.length = us.size →
    (forIn (m := Sem) fs PUnit.unit fun f _ => do
      if f.name ≠ "_" then Instr.checkKey em (n + 1) f.type (← part f.type us f.offset)
      pure (ForInStep.yield PUnit.unit)).run P w = .ok PUnit.unit w
  | [], ks, i, h, hs => by simp
  | f :: fs, ks, i, h, hs => by
    simp only [plainFs] at h
    split at h
    · rename_i hc
      split at h
      · rename_i k ks' hk hks
        cases h
        have hlt : f.offset < us.size := by rw [hc.2]; simp at hs; omega
        have hpart := run_part1 (w := w) hk (us := us) (i := f.offset) (Array.getElem?_eq_getElem hlt)
        have ih := checkFields_ok em n us fs ks' (i + 1) hks (by simp at hs; omega)
        simp only [List.forIn_cons, if_pos hc.1, Sem.run_bind, hpart, Result.andThen_ok, checkKey_sc hk, Sem.run_pure]
        exact ih
      · cases h
    · cases h
theorem vfitss_len : ∀ {ks : List SK} {a : List Value}, vfitss ks a = true → ks.length = a.length
  | [], [], _ => rfl
  | _ :: _, _ :: _, h => by simp only [vfitss, Bool.and_eq_true] at h; simp [vfitss_len h.2]
  | [], _ :: _, h => by simp [vfitss] at h
  | _ :: _, [], h => by simp [vfitss] at h
theorem checkKey_st {t : TypeId} {ks : List SK} (hp : plainSt P t = some ks) {us : Array Value} (ha : vfitss ks us.toList = true) (em : Bool) (n : Nat) : (Instr.checkKey em (n + 1 + 1) t (.agg us)).run P w = .ok () w := by
  obtain ⟨fs, hu, -, -, h3⟩ := plainSt_inv hp
  rw [Instr.checkKey]
  simp only [Sem.run_bind, run_underlying hu, Result.andThen_ok]
  rw [← Array.forIn_toList]
  have := checkFields_ok (P := P) (w := w) em n us fs.toList ks 0 h3 (by have := vfitss_len ha; simp at this; omega)
  simp at this ⊢
  rw [this]
  rfl
theorem checkKey_ok {t : TypeId} {κ : KK} (hκ : kkOf P t = some κ) {a : Value} (ha : κ.fits a = true) (em : Bool) (n : Nat) : (Instr.checkKey em (n + 1 + 1) t a).run P w = .ok () w := by
  rcases kk_cases hκ with ⟨ks, rfl, hp⟩ | ⟨k, rfl, hk⟩
  · obtain ⟨us, rfl, h⟩ := fits_st ha
    exact checkKey_st hp h em n
  · exact checkKey_sc hk em (n + 1) a
end

/-! ### What a lookup gives -/
def flatVs : List AV → Option (List Value)
  | [] => some []
  | .v x :: r => match flatVs r with
    | some l => some (x :: l)
    | none => none
  | _ => none
def flatV : AV → Option Value
  | .v x => some x
  | .agg cs => match flatVs cs with
    | some l => some (.agg l.toArray)
    | none => none
  | _ => none
def mapOf (L : AHeap) : AV → Option (List Value × List AV)
  | .lm b => match lk L b with
    | some (.amap ks vs) => some (ks, vs)
    | _ => none
  | .rm ks vs => some (ks, vs)
  | .v (.map none) => some ([], [])
  | _ => none
def mget (k : Value) (ks : List Value) (vs : List AV) (z : AV) : AV :=
  match mfind k ks with
  | some i => vs.getD i .any
  | none => z
def aLookup (P : Program) (L : AHeap) (t : TypeId) (ok : Bool) (m k : AV) : Option (Prop × AV) :=
  match tinfo P t with
  | some ⟨.map kt et, _, _, _⟩ => match tinfo P et, kkOf P kt, flatV k, mapOf L m with
    | some ei, some κ, some kv, some (ks, vs) => some (κ.fits kv = true ∧ ks.all κ.fits = true, if ok then .tup [mget kv ks vs ei.zero, ab (mfind kv ks).isSome] else mget kv ks vs ei.zero)
    | _, _, _, _ => none
  | _ => none

section
variable {P : Program} {w : World} {A : Foot} {L : AHeap}
theorem flatVs_ok : ∀ {cs : List AV} {l : List Value}, flatVs cs = some l → ∀ {us : List Value}, Rels w A cs us → us = l
  | [], l, h, us, hr => by simp only [flatVs] at h; cases h; exact hr.inv_nil
  | c :: cs, l, h, us, hr => by
    obtain ⟨u, us', rfl, h1, h2⟩ := hr.inv_cons
    cases c with
    | v x =>
      simp only [flatVs] at h
      split at h
      · rename_i l' hl
        cases h
        rw [h1.inv_v, flatVs_ok hl h2]
      · cases h
    | _ => simp [flatVs] at h
theorem flatV_ok {a : AV} {v : Value} (h : flatV a = some v) {u : Value} (hr : Rel w A a u) : u = v := by
  cases a with
  | v x => simp only [flatV] at h; cases h; exact hr.inv_v
  | agg cs =>
    simp only [flatV] at h
    split at h
    · rename_i l hl
      cases h
      cases hr with
      | agg _ us hn hh =>
        have := flatVs_ok hl (us := us.toList) ⟨by simpa using hn, fun i a u ha hu => hh i a u ha (by simpa using hu)⟩
        rw [← this]
    · cases h
  | _ => simp [flatV] at h
theorem zav_rel0 (z : Value) : Rel w A (zav z) z := by
  cases z with
  | agg cs =>
    refine .agg _ _ (by simp) fun i c u hc hu => ?_
    rw [List.getElem?_map, Array.getElem?_toList, hu] at hc
    cases hc; exact .v _
  | _ => exact .v _
theorem mapOf_ok {m : AV} {ks : List Value} {vs : List AV} (h : mapOf L m = some (ks, vs)) (hL : LRel w A L) {u : Value} (hr : Rel w A m u) :
    ∃ es : Array MapEntry, ((u = .map none ∧ es = #[]) ∨ ∃ r clock, u = .map (some r) ∧ w.heap[r]? = some (.map es clock)) ∧ es.toList.map (·.key) = ks ∧ vs.length = ks.length ∧ ∀ (i : Nat) x e, vs[i]? = some x → es[i]? = some e → Rel w A x e.val := by
  unfold mapOf at h
  split at h
  · rename_i b
    split at h
    · rename_i ks' vs' hb
      cases h
      obtain ⟨es, clock, h1, h2, h3, _, _, h6⟩ := hL.lk hb
      cases hr with
      | lm _ => exact ⟨es, .inr ⟨b, clock, rfl, h1⟩, h2, h3, h6⟩
    · cases h
  · cases h
    cases hr with
    | rm _ _ b es clock hA hw hk hv hh => exact ⟨es, .inr ⟨b, clock, rfl, hw⟩, hk, hv, hh⟩
  · cases h
    obtain rfl := hr.inv_v
    exact ⟨#[], .inl ⟨rfl, rfl⟩, rfl, rfl, fun i x e h => by simp at h⟩
  · cases h

theorem aLookup_ok {t : TypeId} {ok : Bool} {m k : AV} {c : Prop} {x : AV} {mv kv : Value} (h : aLookup P L t ok m k = some (c, x)) (hc : c) (hL : LRel w A L) (hm : Rel w A m mv) (hk : Rel w A k kv) :
    ∃ u, (Instr.lookup t mv kv ok).run P w = .ok u w ∧ Rel w A x u := by
  unfold aLookup at h
  split at h
  · rename_i kt et _ _ _ hti
    split at h
    · rename_i ei κ kv' ks vs hei hκ hf hmo
      cases h
      obtain ⟨hfit, hall⟩ := hc
      have hu := tinfo_map hti
      obtain ⟨d2, inf2, z2, hd2, hinf2, hz2, rfl⟩ := tinfo_inv hei
      obtain rfl := flatV_ok hf hk
      obtain ⟨es, h1, h2, h3, h4⟩ := mapOf_ok hmo hL hm
      have hes : ∀ e ∈ es.toList, κ.fits e.key = true := fun e he => List.all_eq_true.1 hall _ (h2 ▸ List.mem_map_of_mem he)
      obtain ⟨r, g1, g2, g3⟩ := findKey_ok (P := P) (w := w) hκ hfit es.toList hes
      rw [h2] at g2
      have hcheck := checkKey_ok (P := P) (w := w) hκ hfit es.isEmpty 9998
      have main : ∃ v : Value, Rel w A (mget kv ks vs (zav z2)) v ∧ (Instr.lookup t mv kv ok).run P w = .ok (if ok then .tuple #[v, .bool (mfind kv ks).isSome] else v) w := by
        unfold mget
        rw [← g2]
        have hlook : ∀ v : Value, ∀ okb : Bool, (match r with | some (_, v) => pure (v, true) | none => do pure (← zeroValue et, false) : Sem (Value × Bool)).run P w = .ok (v, okb) w →
            (Instr.lookup t mv kv ok).run P w = .ok (if ok then .tuple #[v, .bool okb] else v) w := fun v okb hv => by
          have hc2 : (Instr.checkKey es.isEmpty 10000 kt kv).run P w = .ok () w := hcheck
          rcases h1 with ⟨rfl, rfl⟩ | ⟨b, clock, rfl, hb⟩
          · simp only [Instr.lookup, Sem.run_bind, run_underlying hu, Result.andThen_ok, Sem.run_pure]
            rw [hc2]
            simp only [Result.andThen_ok, g1]
            cases r with
            | none => simp only [Sem.run_bind] at hv ⊢; rw [run_zeroValue_i hinf2 hz2] at hv ⊢; simp at hv ⊢; obtain ⟨rfl, rfl⟩ := hv; rfl
            | some p => simp at hv ⊢; obtain ⟨rfl, rfl⟩ := hv; rfl
          · have hg : (getObj b).run P w = .ok (.map es clock) w := by simp [getObj, Sem.run, hb]
            simp only [Instr.lookup, Sem.run_bind, run_underlying hu, Result.andThen_ok, Sem.run_pure, hg]
            rw [hc2]
            simp only [Result.andThen_ok, g1]
            cases r with
            | none => simp only [Sem.run_bind] at hv ⊢; rw [run_zeroValue_i hinf2 hz2] at hv ⊢; simp at hv ⊢; obtain ⟨rfl, rfl⟩ := hv; rfl
            | some p => simp at hv ⊢; obtain ⟨rfl, rfl⟩ := hv; rfl
        cases r with
        | none => exact ⟨z2, zav_rel0 z2, hlook z2 false (by simp [run_zeroValue_i hinf2 hz2])⟩
        | some p =>
          obtain ⟨i, v⟩ := p
          obtain ⟨e, he, rfl⟩ := g3 i v rfl
          have hilt : i < vs.length := by
            rw [h3, ← h2, List.length_map]
            exact (List.getElem?_eq_some_iff.1 he).1
          refine ⟨e.val, ?_, hlook e.val true rfl⟩
          simp only [Option.map_some]
          refine h4 i _ e ?_ (by simpa using he)
          simp [List.getD_eq_getElem?_getD, hilt]
      obtain ⟨v, hv, hrun⟩ := main
      refine ⟨_, hrun, ?_⟩
      cases ok
      · exact hv
      · simp only [if_true]
        refine .tup _ _ (by simp) fun i c u hc hu => ?_
        match i with
        | 0 => simp at hc hu; subst hc; subst hu; exact hv
        | 1 => simp at hc hu; subst hc; subst hu; exact .v _
        | i + 2 => simp at hc
    · cases h
  · cases h
end
end Go.AL
