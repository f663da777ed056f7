/- Texts of this claim's proof: WPf, WPw, WPw2, WPw3. No condition. -/
import Derived.Test.YtkfkdmefabefkaaGreatDoorM9
import Derived.Test.YtkfkdmefabefkaaGreatDoorM6
section
/- What the program says of trees: which are well-formed, which have a type. No condition. -/
namespace Go.AL
open Go Go.RowKit
set_option maxRecDepth 4000
/-! ### Lists of trees, walked with a state -/
def findS {S : Type} (step : Pd → S → Bool × S) : List Pd → S → Option Nat × S
  | [], s => (none, s)
  | x :: r, s => if (step x s).1 then (some 0, (step x s).2) else ((findS step r (step x s).2).1.map (· + 1), (findS step r (step x s).2).2)
def idxA (o : Option Nat) : Int := match o with | some i => i | none => -1
theorem findS_step {S : Type} (step : Pd → S → Bool × S) {l : List Pd} {s s' : S} {k : Nat} (hk : k < l.length) (h : findS step l s = ((findS step (l.drop k) s').1.map (· + k), (findS step (l.drop k) s').2)) :
    ((step l[k] s').1 = true → findS step l s = (some k, (step l[k] s').2)) ∧
    ((step l[k] s').1 = false → findS step l s = ((findS step (l.drop (k + 1)) (step l[k] s').2).1.map (· + (k + 1)), (findS step (l.drop (k + 1)) (step l[k] s').2).2)) := by
  rw [List.drop_eq_getElem_cons hk, findS] at h
  refine ⟨fun e => ?_, fun e => ?_⟩
  · rw [if_pos e] at h; rw [h]; simp
  · rw [if_neg (by rw [e]; decide)] at h; rw [h]; simp only [Option.map_map]
    congr 2
    funext i; simp only [Function.comp]; omega
theorem preds_indexS {S : Type} (step : Pd → S → Bool × S) (Ls : S → AHeap) (Inv : S → Prop) (l : List Pd) (hl : l.length ≤ 1000000) (g : AV) (hgf : fo g = (True, g))
    (hg : ∀ x ∈ l, ∀ s, Inv s → MVal Go.Proofs.Tryz.prog g [aPd x] (Ls s) fun r L => r = ab (step x s).1 ∧ L = Ls (step x s).2) (hi : ∀ x ∈ l, ∀ s, Inv s → (step x s).1 = false → Inv (step x s).2) (s : S) (hs : Inv s) :
    MCalls Go.Proofs.Tryz.prog 89 [.sl 6 (l.map aPd), g] (Ls s) fun r L => r = ai (idxA (findS step l s).1) ∧ L = Ls (findS step l s).2 := by
  refine MCalls.enter' 19 [.tmp 4] [] Go.Proofs.Tryz.func89 rfl rfl rfl rfl rfl (by simp) (AWp.of ?_); simp only [go_sem]
  repeat ((with_reducible refine an ?_ ?_); focus exact As)
  refine AWp.of ?_; simp only [go_sem]
  refine AWp.range' l.length [] [0, 1, 7] (fun k vs L => ∃ s', L = Ls s' ∧ Inv s' ∧ findS step l s = ((findS step (l.drop k) s').1.map (· + k), (findS step (l.drop k) s').2)) (by omega) rfl rfl rfl ⟨s, rfl, hs, by simp⟩ ?_ ?_
  · rintro k vs L' hk hvs ⟨s', rfl, hI, hf⟩
    obtain ⟨f1, f2⟩ := findS_step step hk hf
    have hm := List.getElem_mem hk
    have hgk := hg l[k] hm s' hI
    have hik := hi l[k] hm s' hI
    have hgi := getD_map (f := aPd) hk
    generalize l[k] = x at *
    generalize step x s' = st at *
    obtain ⟨k2, n2, p2, q2, s2, l2⟩ := x
    simp only [aPd_mk] at hgi hgk
    simp only [go_sem]
    repeat ((with_reducible refine an ?_ ?_); focus exact As)
    refine AWp.of ?_; simp only [go_sem]
    repeat ((with_reducible refine an ?_ ?_); focus exact As)
    refine AWp.of ?_; simp only [go_sem, hgi, hgf]
    repeat ((with_reducible refine an ?_ ?_); focus exact As)
    refine hgk.mono ?_
    rintro r L'' ⟨rfl, rfl⟩
    simp only [go_sem]
    repeat (first | ((with_reducible refine AWp.ofC ?_ ?_); (focus exact rfl); simp only [go_sem]) | ((with_reducible refine an ?_ ?_); focus exact Au))
    refine ⟨fun ht => ?_, fun hf' => ?_⟩
    · repeat (first | ((with_reducible refine AWp.ofC ?_ ?_); (focus exact rfl); simp only [go_sem]) | ((with_reducible refine an ?_ ?_); focus exact Au))
      refine ret_own ?_
      simp only [go_sem]
      rw [f1 ht]; exact ⟨rfl, rfl⟩
    · repeat (first | ((with_reducible refine AWp.ofC ?_ ?_); (focus exact rfl); simp only [go_sem]) | ((with_reducible refine an ?_ ?_); focus exact Au))
      exact ⟨_, List.Sublist.refl _, _, rfl, hik hf', f2 hf'⟩
  · rintro vs L' hvs ⟨s', rfl, hI, hf⟩
    simp only [go_sem]
    repeat (first | ((with_reducible refine AWp.ofC ?_ ?_); (focus exact rfl); simp only [go_sem]) | ((with_reducible refine an ?_ ?_); focus exact Au))
    refine ret_own ?_
    simp only [go_sem]
    rw [hf, List.drop_length]; exact ⟨rfl, rfl⟩
theorem preds_containsS {S : Type} (step : Pd → S → Bool × S) (Ls : S → AHeap) (Inv : S → Prop) (l : List Pd) (hl : l.length ≤ 1000000) (g : AV) (hgf : fo g = (True, g))
    (hg : ∀ x ∈ l, ∀ s, Inv s → MVal Go.Proofs.Tryz.prog g [aPd x] (Ls s) fun r L => r = ab (step x s).1 ∧ L = Ls (step x s).2) (hi : ∀ x ∈ l, ∀ s, Inv s → (step x s).1 = false → Inv (step x s).2) (s : S) (hs : Inv s) :
    MCalls Go.Proofs.Tryz.prog 56 [.sl 6 (l.map aPd), g] (Ls s) fun r L => r = ab ((findS step l s).1.isSome) ∧ L = Ls (findS step l s).2 := by
  have h := preds_indexS step Ls Inv l hl g hgf hg hi s hs
  generalize findS step l s = o at *
  have ho : 0 ≤ idxA o.1 ↔ o.1.isSome = true := by cases o.1 <;> simp [idxA]
  refine MCalls.enter' 9 [.tmp 4] [] Go.Proofs.Tryz.func56 rfl rfl rfl rfl rfl (by simp) (AWp.of ?_); simp only [go_sem]
  repeat ((with_reducible refine an ?_ ?_); focus exact As)
  refine AWp.of ?_; simp only [go_sem, hgf]
  refine h.val.mono ?_
  rintro r L'' ⟨rfl, rfl⟩
  simp only [go_sem]
  repeat (first | ((with_reducible refine AWp.ofC ?_ ?_); (focus exact rfl); simp only [go_sem]) | ((with_reducible refine an ?_ ?_); focus exact Au))
  refine ret_own ?_
  simp only [go_sem]
  congr 2
  rw [Bool.eq_iff_iff, decide_eq_true_iff]; exact ho
theorem findS_any (p : Pd → Bool) : ∀ l : List Pd, (findS (fun x (_ : Unit) => (p x, ())) l ()).1.isSome = l.any p
  | [] => rfl
  | x :: r => by
    rw [findS, List.any_cons]
    by_cases h : p x = true
    · simp [h]
    · have := findS_any p r
      simp only [h, Bool.false_eq_true, if_false, Bool.false_or]
      rw [← this]; simp
theorem preds_containsFunc (l : List Pd) (hl : l.length ≤ 1000000) (g : AV) (hgf : fo g = (True, g)) (p : Pd → Bool) (hg : ∀ x ∈ l, PV Go.Proofs.Tryz.prog g [aPd x] (ab (p x))) :
    PC Go.Proofs.Tryz.prog 56 [.sl 6 (l.map aPd), g] (ab (l.any p)) := by
  have h := preds_containsS (fun x (_ : Unit) => (p x, ())) (fun _ => []) (fun _ => True) l hl g hgf (fun x hx s _ => hg x hx) (fun _ _ _ _ _ => trivial) () trivial
  rw [findS_any] at h
  exact h
/-! ### Types -/
def resF (k : Int) : Int := if k ≤ 8 then 1 else 2
def needF (k : Int) : Int := if k ≤ 12 then 1 else 2
theorem predtype_result (k : Int) : PC Go.Proofs.Tryz.prog 124 [ai k] (ai (resF k)) := by
  refine PC.enter 5 [.tmp 2] [] Go.Proofs.Tryz.func124 rfl rfl rfl rfl rfl (by simp) (AWp.of ?_); simp only [go_sem]
  repeat (first | ((with_reducible refine AWp.ofC ?_ ?_); (focus exact rfl); simp only [go_sem]) | ((with_reducible refine an ?_ ?_); focus exact Au))
  repeat (first | ((with_reducible refine AWp.ofC ?_ ?_); (focus exact rfl); simp only [go_sem]) | ((with_reducible refine an ?_ ?_); focus exact Au))
  refine ⟨fun h1 => ?_, fun h1 => ?_⟩
  · repeat (first | ((with_reducible refine AWp.ofC ?_ ?_); (focus exact rfl); simp only [go_sem]) | ((with_reducible refine an ?_ ?_); focus exact Au))
    refine ret_eq ?_; simp only [go_sem]
    unfold resF; rw [if_pos h1]
  · repeat (first | ((with_reducible refine AWp.ofC ?_ ?_); (focus exact rfl); simp only [go_sem]) | ((with_reducible refine an ?_ ?_); focus exact Au))
    refine ret_eq ?_; simp only [go_sem]
    unfold resF; rw [if_neg h1]
theorem predtype_need (k : Int) : PC Go.Proofs.Tryz.prog 163 [ai k] (ai (needF k)) := by
  refine PC.enter 5 [.tmp 2] [] Go.Proofs.Tryz.func163 rfl rfl rfl rfl rfl (by simp) (AWp.of ?_); simp only [go_sem]
  repeat (first | ((with_reducible refine AWp.ofC ?_ ?_); (focus exact rfl); simp only [go_sem]) | ((with_reducible refine an ?_ ?_); focus exact Au))
  repeat (first | ((with_reducible refine AWp.ofC ?_ ?_); (focus exact rfl); simp only [go_sem]) | ((with_reducible refine an ?_ ?_); focus exact Au))
  refine ⟨fun h1 => ?_, fun h1 => ?_⟩
  · repeat (first | ((with_reducible refine AWp.ofC ?_ ?_); (focus exact rfl); simp only [go_sem]) | ((with_reducible refine an ?_ ?_); focus exact Au))
    refine ret_eq ?_; simp only [go_sem]
    unfold needF; rw [if_pos h1]
  · repeat (first | ((with_reducible refine AWp.ofC ?_ ?_); (focus exact rfl); simp only [go_sem]) | ((with_reducible refine an ?_ ?_); focus exact Au))
    refine ret_eq ?_; simp only [go_sem]
    unfold needF; rw [if_neg h1]
/-- The parts of a node have the type that they need. -/
def tyNe (k m : Int) : Bool := decide (¬ resF m = needF k)
def typB : Pd → Bool
  | .mk k _ _ _ _ l => !l.any fun x => tyNe k x.kind
theorem predtype_typed11 (k n p q : Int) (s : ByteArray) (l : List Pd) (x : Pd) : PC Go.Proofs.Tryz.prog 162 [aPd x, .rp 6 [aPd (.mk k n p q s l)] 0 0] (ab (tyNe k x.kind)) := by
  have hr := predtype_result x.kind
  have hn := predtype_need k
  obtain ⟨k2, n2, p2, q2, s2, l2⟩ := x
  simp only [Pd.kind] at *
  have hsp : tyNe k k2 = decide (¬ resF k2 = needF k) := rfl
  generalize tyNe k k2 = b at *
  generalize hr0 : resF k2 = r at *
  generalize hm0 : needF k = m at *
  refine PC.enter 11 [.tmp 3] [2] Go.Proofs.Tryz.func162 rfl rfl rfl rfl rfl (by simp) (AWp.of ?_); simp only [go_sem]
  refine AWp.seq ?_
  refine AWp.mix mixed [0, 1, 2, 3, 4, 5, 6, 7] .done (by kernel_rfl) ?_; simp only [go_sem]
  repeat ((with_reducible refine an ?_ ?_); focus exact As)
  refine GCall.use (ai r) (fun _ => ⟨At, (hr).val.use ⟨rfl, rfl⟩⟩) ?_; simp only [go_sem]
  repeat ((with_reducible refine an ?_ ?_); focus exact As)
  refine GCall.use (ai m) (fun _ => ⟨At, (hn).val.use ⟨rfl, rfl⟩⟩) ?_; simp only [go_sem]
  repeat ((with_reducible refine an ?_ ?_); focus exact As)
  repeat (first | ((with_reducible refine AWp.ofC ?_ ?_); (focus exact rfl); simp only [go_sem]) | ((with_reducible refine an ?_ ?_); focus exact Au))
  refine ret_eq ?_; simp only [go_sem]
  rw [hsp, decide_not]
theorem predtype_typed1 (x : Pd) (hz : szF x ≤ 1000000) : PC Go.Proofs.Tryz.prog 161 [aPd x] (ab (typB x)) := by
  obtain ⟨k, n, p, q, s, l⟩ := x
  have hll := szL_len l
  rw [szF] at hz
  have hc := preds_containsFunc l (by omega) (.clo 162 [.rp 6 [aPd (.mk k n p q s l)] 0 0]) rfl (fun x => tyNe k x.kind) fun x _ => (predtype_typed11 k n p q s l x).clo
  have hsp : typB (.mk k n p q s l) = !l.any fun x => tyNe k x.kind := rfl
  rw [hsp]
  generalize (l.any fun x => tyNe k x.kind) = b at *
  simp only [aPd_mk] at hc
  refine PC.enter 8 [.tmp 2] [1] Go.Proofs.Tryz.func161 rfl rfl rfl rfl rfl (by simp) (AWp.of ?_); simp only [go_sem]
  repeat (first | ((with_reducible refine AWp.ofC ?_ ?_); (focus exact rfl); simp only [go_sem]) | ((with_reducible refine an ?_ ?_); focus exact Au))
  repeat ((with_reducible refine an ?_ ?_); focus exact As)
  refine (hc).val.use ?_; simp only [go_sem]
  repeat (first | ((with_reducible refine AWp.ofC ?_ ?_); (focus exact rfl); simp only [go_sem]) | ((with_reducible refine an ?_ ?_); focus exact Au))
  refine ret_eq ?_; simp only [go_sem]
theorem predtype_eachC (f : Pd → Bool) (F : FuncId) (cs : List AV) (hg : ∀ x, szF x ≤ 1000000 → PV Go.Proofs.Tryz.prog (.clo F cs) [aPd x] (ab (f x))) (t : Pd) : szF t ≤ 1000000 → PC Go.Proofs.Tryz.prog 133 [aPd t, .clo F cs] (ab (allB f t)) := by
  induction t using Pd.ind with
  | _ k n p q s l ih =>
  intro hz
  have hsz : szF (.mk k n p q s l) = szL l + 1 := by rw [szF]
  have hll := szL_len l
  have hf := hg _ hz
  have h1 : ∀ x ∈ l, PV Go.Proofs.Tryz.prog (.clo 171 [.rp 1 [.clo F cs] 0 0]) [aPd x] (ab (!allB f x)) := by
    intro x hx
    have hxi := szL_mem hx
    have hch := ih x hx (by omega)
    generalize allB f x = b at *
    obtain ⟨k2, n2, p2, q2, s2, l2⟩ := x
    refine PC.clo ?_
    simp only [aPd_mk] at *
    refine PC.enter 8 [.tmp 3] [2] Go.Proofs.Tryz.func171 rfl rfl rfl rfl rfl (by simp) (AWp.of ?_); simp only [go_sem]
    repeat (first | ((with_reducible refine AWp.ofC ?_ ?_); (focus exact rfl); simp only [go_sem]) | ((with_reducible refine an ?_ ?_); focus exact Au))
    repeat ((with_reducible refine an ?_ ?_); focus exact As)
    refine (hch).val.use ?_; simp only [go_sem]
    repeat (first | ((with_reducible refine AWp.ofC ?_ ?_); (focus exact rfl); simp only [go_sem]) | ((with_reducible refine an ?_ ?_); focus exact Au))
    refine ret_eq ?_; simp only [go_sem]
  have hc := preds_containsFunc l (by omega) _ rfl (fun x => !allB f x) h1
  have hsp : allB f (.mk k n p q s l) = (f (.mk k n p q s l) && !l.any fun x => !allB f x) := by
    rw [allB_mk]; congr 1
    rw [List.all_eq_not_any_not]
  rw [hsp]
  generalize f (.mk k n p q s l) = b at *
  generalize (l.any fun x => !allB f x) = c at *
  simp only [aPd_mk] at *
  refine PC.enter 15 [.tmp 4] [2, 3] Go.Proofs.Tryz.func133 rfl rfl rfl rfl rfl (by simp) (AWp.of ?_); simp only [go_sem]
  repeat (first | ((with_reducible refine AWp.ofC ?_ ?_); (focus exact rfl); simp only [go_sem]) | ((with_reducible refine an ?_ ?_); focus exact Au))
  repeat ((with_reducible refine an ?_ ?_); focus exact As)
  refine (hf).use ?_; simp only [go_sem]
  repeat ((with_reducible refine an ?_ ?_); focus exact As)
  refine GCall.use (ab c) (fun _ => ⟨At, (hc).val.use ⟨rfl, rfl⟩⟩) ?_; simp only [go_sem]
  repeat ((with_reducible refine an ?_ ?_); focus exact As)
  repeat (first | ((with_reducible refine AWp.ofC ?_ ?_); (focus exact rfl); simp only [go_sem]) | ((with_reducible refine an ?_ ?_); focus exact Au))
  refine ret_eq ?_; simp only [go_sem]
theorem predtype_eachV (f : Pd → Bool) (F : FuncId) (hg : ∀ x, szF x ≤ 1000000 → PV Go.Proofs.Tryz.prog (.v (.func (.func F) #[] #[])) [aPd x] (ab (f x))) (t : Pd) : szF t ≤ 1000000 → PC Go.Proofs.Tryz.prog 133 [aPd t, .v (.func (.func F) #[] #[])] (ab (allB f t)) := by
  induction t using Pd.ind with
  | _ k n p q s l ih =>
  intro hz
  have hsz : szF (.mk k n p q s l) = szL l + 1 := by rw [szF]
  have hll := szL_len l
  have hf := hg _ hz
  have h1 : ∀ x ∈ l, PV Go.Proofs.Tryz.prog (.clo 171 [.rp 1 [.v (.func (.func F) #[] #[])] 0 0]) [aPd x] (ab (!allB f x)) := by
    intro x hx
    have hxi := szL_mem hx
    have hch := ih x hx (by omega)
    generalize allB f x = b at *
    obtain ⟨k2, n2, p2, q2, s2, l2⟩ := x
    refine PC.clo ?_
    simp only [aPd_mk] at *
    refine PC.enter 8 [.tmp 3] [2] Go.Proofs.Tryz.func171 rfl rfl rfl rfl rfl (by simp) (AWp.of ?_); simp only [go_sem]
    repeat (first | ((with_reducible refine AWp.ofC ?_ ?_); (focus exact rfl); simp only [go_sem]) | ((with_reducible refine an ?_ ?_); focus exact Au))
    repeat ((with_reducible refine an ?_ ?_); focus exact As)
    refine (hch).val.use ?_; simp only [go_sem]
    repeat (first | ((with_reducible refine AWp.ofC ?_ ?_); (focus exact rfl); simp only [go_sem]) | ((with_reducible refine an ?_ ?_); focus exact Au))
    refine ret_eq ?_; simp only [go_sem]
  have hc := preds_containsFunc l (by omega) _ rfl (fun x => !allB f x) h1
  have hsp : allB f (.mk k n p q s l) = (f (.mk k n p q s l) && !l.any fun x => !allB f x) := by
    rw [allB_mk]; congr 1
    rw [List.all_eq_not_any_not]
  rw [hsp]
  generalize f (.mk k n p q s l) = b at *
  generalize (l.any fun x => !allB f x) = c at *
  simp only [aPd_mk] at *
  refine PC.enter 15 [.tmp 4] [2, 3] Go.Proofs.Tryz.func133 rfl rfl rfl rfl rfl (by simp) (AWp.of ?_); simp only [go_sem]
  repeat (first | ((with_reducible refine AWp.ofC ?_ ?_); (focus exact rfl); simp only [go_sem]) | ((with_reducible refine an ?_ ?_); focus exact Au))
  repeat ((with_reducible refine an ?_ ?_); focus exact As)
  refine (hf).use ?_; simp only [go_sem]
  repeat ((with_reducible refine an ?_ ?_); focus exact As)
  refine GCall.use (ab c) (fun _ => ⟨At, (hc).val.use ⟨rfl, rfl⟩⟩) ?_; simp only [go_sem]
  repeat ((with_reducible refine an ?_ ?_); focus exact As)
  repeat (first | ((with_reducible refine AWp.ofC ?_ ?_); (focus exact rfl); simp only [go_sem]) | ((with_reducible refine an ?_ ?_); focus exact Au))
  refine ret_eq ?_; simp only [go_sem]
def typedB (t : Pd) : Bool := allB typB t
theorem predtype_typed (t : Pd) (hz : szF t ≤ 1000000) : PC Go.Proofs.Tryz.prog 123 [aPd t] (ab (typedB t)) := by
  have he := predtype_eachV typB 161 (fun x hx => (predtype_typed1 x hx).val) t hz
  unfold typedB
  generalize allB typB t = b at *
  obtain ⟨k, n, p, q, s, l⟩ := t
  simp only [aPd_mk] at *
  refine PC.enter 5 [.tmp 2] [1] Go.Proofs.Tryz.func123 rfl rfl rfl rfl rfl (by simp) (AWp.of ?_); simp only [go_sem]
  repeat (first | ((with_reducible refine AWp.ofC ?_ ?_); (focus exact rfl); simp only [go_sem]) | ((with_reducible refine an ?_ ?_); focus exact Au))
  repeat ((with_reducible refine an ?_ ?_); focus exact As)
  refine (he).val.use ?_; simp only [go_sem]
  repeat (first | ((with_reducible refine AWp.ofC ?_ ?_); (focus exact rfl); simp only [go_sem]) | ((with_reducible refine an ?_ ?_); focus exact Au))
  refine ret_eq ?_; simp only [go_sem]
/-! ### Well-formed trees -/
theorem predtype_named (k : Int) : PC Go.Proofs.Tryz.prog 194 [ai k] (ab (decide (2 ≤ k ∧ k ≤ 4))) := by
  generalize hb : decide (2 ≤ k ∧ k ≤ 4) = b
  refine PC.enter 13 [.tmp 2] [] Go.Proofs.Tryz.func194 rfl rfl rfl rfl rfl (by simp) (AWp.of ?_); simp only [go_sem]
  repeat (first | ((with_reducible refine AWp.ofC ?_ ?_); (focus exact rfl); simp only [go_sem]) | ((with_reducible refine an ?_ ?_); focus exact Au))
  refine ret_eq ?_; simp only [go_sem]
  rw [← hb]
  congr 2
  rw [Bool.eq_iff_iff]; simp; omega
theorem partsAV_get {k : Int} (h1 : 1 ≤ k) (h2 : k < 22) : partsAV.getD k.toNat .any = ai (partsF k) := by
  have : k = 1 ∨ k = 2 ∨ k = 3 ∨ k = 4 ∨ k = 5 ∨ k = 6 ∨ k = 7 ∨ k = 8 ∨ k = 9 ∨ k = 10 ∨ k = 11 ∨ k = 12 ∨ k = 13 ∨ k = 14 ∨ k = 15 ∨ k = 16 ∨ k = 17 ∨ k = 18 ∨ k = 19 ∨ k = 20 ∨ k = 21 := by omega
  rcases this with rfl | rfl | rfl | rfl | rfl | rfl | rfl | rfl | rfl | rfl | rfl | rfl | rfl | rfl | rfl | rfl | rfl | rfl | rfl | rfl | rfl <;> rfl
theorem partsAV_len : partsAV.length = 22 := rfl
theorem predtype_fits (t : Pd) (hz : szF t ≤ 1000000) : PC Go.Proofs.Tryz.prog 159 [aPd t] (ab (locB t)) := by
  obtain ⟨k, n, p, q, s, l⟩ := t
  have hll := szL_len l
  rw [szF] at hz
  have hnm := predtype_named k
  have hsp : locB (.mk k n p q s l) = (decide (partsF k = l.length) && numB k n && nameB k p q s) := rfl
  have hpg := @partsAV_get k
  generalize locB (.mk k n p q s l) = b at *
  refine PC.enter 59 [.tmp 2] [1] Go.Proofs.Tryz.func159 rfl rfl rfl rfl rfl (by simp) (AWp.of ?_); simp only [go_sem]
  by_cases k1 : k < 1
  · have hk0 : partsAV.getD k.toNat .any = ai (-1) := by rw [show k.toNat = 0 by omega]; rfl
    have hpf : partsF k = -1 := by unfold partsF; rw [if_neg (by omega), if_neg (by omega), if_neg (by omega)]
    refine AWp.seq (AWp.seq ?_)
    refine AWp.mix mixed [0, 1, 2, 3, 4, 5, 6, 7, 8, 9, 10, 11, 12, 13, 14, 15, 16, 17, 18, 19, 20, 21, 22, 23, 24, 25, 26, 27, 28, 29, 30, 31, 32, 33, 34, 35, 36, 37] .done (by kernel_rfl) ?_; simp only [go_sem, GV, partsAV_len, k1, hk0]
    repeat ((with_reducible refine an ?_ ?_); focus exact As)
    repeat (first | ((with_reducible refine AWp.ofC ?_ ?_); (focus exact rfl); simp only [go_sem]) | ((with_reducible refine an ?_ ?_); focus exact Au))
    refine ret_eq ?_; simp only [go_sem]
    rw [hsp, hpf, decide_eq_false (by omega)]; rfl
  by_cases k2 : 22 ≤ k
  · have hk0 : partsAV.getD k.toNat .any = .any := by rw [List.getD_eq_getElem?_getD, List.getElem?_eq_none (by rw [partsAV_len]; omega)]; rfl
    have hpf : partsF k = -1 := by unfold partsF; rw [if_neg (by omega), if_neg (by omega), if_neg (by omega)]
    refine AWp.seq (AWp.seq ?_)
    refine AWp.mix mixed [0, 1, 2, 3, 4, 5, 6, 7, 8, 9, 10, 11, 12, 13, 14, 15, 16, 17, 18, 19, 20, 21, 22, 23, 24, 25, 26, 27, 28, 29, 30, 31, 32, 33, 34, 35, 36, 37] .done (by kernel_rfl) ?_; simp only [go_sem, GV, partsAV_len, k1, k2, hk0]
    repeat ((with_reducible refine an ?_ ?_); focus exact As)
    repeat (first | ((with_reducible refine AWp.ofC ?_ ?_); (focus exact rfl); simp only [go_sem]) | ((with_reducible refine an ?_ ?_); focus exact Au))
    refine ret_eq ?_; simp only [go_sem]
    rw [hsp, hpf, decide_eq_false (by omega)]; rfl
  have hpg := hpg (by omega) (by omega)
  refine AWp.seq (AWp.seq ?_)
  refine AWp.mix mixed [0, 1, 2, 3, 4, 5, 6, 7, 8, 9, 10, 11, 12, 13, 14, 15, 16, 17, 18, 19, 20, 21, 22, 23, 24, 25, 26, 27, 28, 29, 30, 31, 32, 33, 34, 35, 36, 37] .done (by kernel_rfl) ?_; simp only [go_sem, GV, partsAV_len, k1, k2, hpg]
  repeat ((with_reducible refine an ?_ ?_); focus exact As)
  repeat (first | ((with_reducible refine AWp.ofC ?_ ?_); (focus exact rfl); simp only [go_sem]) | ((with_reducible refine an ?_ ?_); focus exact Au))
  refine ⟨fun h1 => ?_, fun h1 => ?_⟩
  · repeat (first | ((with_reducible refine AWp.ofC ?_ ?_); (focus exact rfl); simp only [go_sem]) | ((with_reducible refine an ?_ ?_); focus exact Au))
    refine ret_eq ?_; simp only [go_sem]
    rw [hsp]
    by_cases e : partsF k = l.length
    · rw [show numB k n = false by unfold numB; split <;> rw [decide_eq_false (by omega)]]; rw [Bool.and_false]; rfl
    · rw [decide_eq_false e]; rfl
  intro h2 h3 h4
  have hnu : numB k n = true := by
    unfold numB
    split
    · rw [decide_eq_true (by omega)]
    · rename_i e
      rw [decide_eq_true]; exact Classical.byContradiction fun hc => e (h4 hc)
  rw [decide_eq_true h1.symm, hnu, Bool.true_and, Bool.true_and] at hsp
  repeat (first | ((with_reducible refine AWp.ofC ?_ ?_); (focus exact rfl); simp only [go_sem]) | ((with_reducible refine an ?_ ?_); focus exact Au))
  repeat ((with_reducible refine an ?_ ?_); focus exact As)
  refine (hnm).val.use ?_; simp only [go_sem]
  repeat (first | ((with_reducible refine AWp.ofC ?_ ?_); (focus exact rfl); simp only [go_sem]) | ((with_reducible refine an ?_ ?_); focus exact Au))
  refine ret_eq ?_; simp only [go_sem]
  rw [hsp]
  unfold nameB
  congr 2
  rw [Bool.eq_iff_iff]
  simp only [Bool.or_eq_true, Bool.and_eq_true, decide_eq_true_iff]
  rw [and_assoc]; rfl
mutual
def walkF : Pd → Int → Int → Bool × Int
  | .mk k n p q s l, d, c => if c - 1 < 0 ∨ 20 < d ∨ locB (.mk k n p q s l) = false then (false, c - 1) else walkL l (d + 1) (c - 1)
def walkL : List Pd → Int → Int → Bool × Int
  | [], _, c => (true, c)
  | x :: r, d, c => if (walkF x d c).1 then walkL r d (walkF x d c).2 else (false, (walkF x d c).2)
end
def stepW (d : Int) (x : Pd) (c : Int) : Bool × Int := (!(walkF x d c).1, (walkF x d c).2)
theorem findS_walk (d : Int) : ∀ (l : List Pd) (c : Int), (findS (stepW d) l c).1.isSome = !(walkL l d c).1 ∧ (findS (stepW d) l c).2 = (walkL l d c).2
  | [], c => by rw [walkL, findS]; exact ⟨rfl, rfl⟩
  | x :: r, c => by
    rw [walkL, findS]
    by_cases h : (walkF x d c).1 = true
    · have ih := findS_walk d r (walkF x d c).2
      rw [if_pos h, if_neg (by simp [stepW, h])]
      exact ⟨by rw [← ih.1]; simp [stepW], ih.2⟩
    · rw [if_neg h, if_pos (by simp [stepW, h])]
      exact ⟨rfl, rfl⟩
theorem walkF_spec (t : Pd) : ∀ d c : Int, 0 ≤ c → ((walkF t d c).1 = true ↔ (szF t : Int) ≤ c ∧ d + dpF t ≤ 21 ∧ allB locB t = true) ∧ ((walkF t d c).1 = true → (walkF t d c).2 = c - szF t) := by
  induction t using Pd.ind with
  | _ k n p q s l ih =>
  intro d c hc
  have hL : ∀ (l' : List Pd), (∀ x ∈ l', x ∈ l) → ∀ c : Int, 0 ≤ c → ((walkL l' (d + 1) c).1 = true ↔ (szL l' : Int) ≤ c ∧ (∀ x ∈ l', d + 1 + dpF x ≤ 21) ∧ l'.all (allB locB) = true) ∧ ((walkL l' (d + 1) c).1 = true → (walkL l' (d + 1) c).2 = c - szL l') := by
    intro l'
    induction l' with
    | nil => intro _ c hc; rw [walkL, szL]; exact ⟨⟨fun _ => ⟨by simpa using hc, by simp, rfl⟩, fun _ => rfl⟩, fun _ => by simp⟩
    | cons x r ihr =>
      intro hm c hc
      obtain ⟨i1, i2⟩ := ih x (hm x List.mem_cons_self) (d + 1) c hc
      rw [walkL, szL, List.all_cons]
      by_cases h : (walkF x (d + 1) c).1 = true
      · have e2 := i2 h
        obtain ⟨j1, j2, j3⟩ := i1.1 h
        obtain ⟨r1, r2⟩ := ihr (fun y hy => hm y (List.mem_cons_of_mem _ hy)) (walkF x (d + 1) c).2 (by omega)
        rw [if_pos h]
        refine ⟨r1.trans (Iff.intro ?_ ?_), fun h2 => by rw [r2 h2, e2]; omega⟩
        · rintro ⟨a1, a2, a3⟩
          refine ⟨by omega, fun y hy => ?_, by rw [j3, a3]; rfl⟩
          rcases List.mem_cons.1 hy with rfl | hy
          · exact j2
          · exact a2 y hy
        · rintro ⟨a1, a2, a3⟩
          rw [j3] at a3
          exact ⟨by omega, fun y hy => a2 y (List.mem_cons_of_mem _ hy), a3⟩
      · rw [if_neg h]
        refine ⟨Iff.intro (fun h2 => by cases h2) ?_, fun h2 => by cases h2⟩
        rintro ⟨a1, a2, a3⟩
        rw [Bool.and_eq_true] at a3
        exact absurd (i1.2 ⟨by omega, a2 x List.mem_cons_self, a3.1⟩) h
  have hdl : ∀ l' : List Pd, (∀ x ∈ l', d + 1 + dpF x ≤ 21) ∧ d ≤ 20 ↔ d + ((dpL l' + 1 : Nat) : Int) ≤ 21 := by
    intro l'
    induction l' with
    | nil => rw [dpL]; constructor
             · rintro ⟨_, h⟩; omega
             · intro h; exact ⟨by simp, by omega⟩
    | cons x r ihr =>
      rw [dpL]
      constructor
      · rintro ⟨h1, h2⟩
        have := ihr.1 ⟨fun y hy => h1 y (List.mem_cons_of_mem _ hy), h2⟩
        have := h1 x List.mem_cons_self
        omega
      · intro h
        have := ihr.2 (by omega)
        refine ⟨fun y hy => ?_, this.2⟩
        rcases List.mem_cons.1 hy with rfl | hy
        · omega
        · exact this.1 y hy
  have hd := hdl l
  rw [walkF, szF, dpF, allB_mk]
  by_cases h : c - 1 < 0 ∨ 20 < d ∨ locB (.mk k n p q s l) = false
  · rw [if_pos h]
    refine ⟨Iff.intro (fun h => by cases h) ?_, fun h => by cases h⟩
    rintro ⟨a1, a2, a3⟩
    have := hd.2 a2
    rw [Bool.and_eq_true] at a3
    rcases h with h | h | h
    · omega
    · omega
    · rw [h] at a3; cases a3.1
  · rw [if_neg h]
    obtain ⟨w1, w2⟩ := hL l (fun _ h => h) (c - 1) (by omega)
    have hlo : locB (.mk k n p q s l) = true := by
      cases e : locB (.mk k n p q s l)
      · exact absurd (Or.inr (Or.inr e)) h
      · rfl
    rw [hlo, Bool.true_and]
    refine ⟨w1.trans (Iff.intro ?_ ?_), fun h => by rw [w2 h]; omega⟩
    · rintro ⟨a1, a2, a3⟩
      exact ⟨by omega, hd.1 ⟨a2, by omega⟩, a3⟩
    · rintro ⟨a1, a2, a3⟩
      exact ⟨by omega, (hd.2 a2).1, a3⟩
theorem walkF_formed (t : Pd) : (walkF t 1 200).1 = formedB t := by
  rw [Bool.eq_iff_iff, (walkF_spec t 1 200 (by decide)).1]
  unfold formedB
  simp only [Bool.and_eq_true, decide_eq_true_iff, and_assoc]
  exact ⟨fun ⟨a, b, c⟩ => ⟨by omega, by omega, c⟩, fun ⟨a, b, c⟩ => ⟨by omega, by omega, c⟩⟩
def aWalk (bl bw : Nat) : AV := .clo 158 [.lp bl 1 0 0, .lp bw 1 0 0]
def Lw (bl bw : Nat) (c : Int) : AHeap := [(bw, .row 98 1 [aWalk bl bw] 1), (bl, .row 3 1 [ai c] 1)]
theorem stepW_inv {d : Int} {x : Pd} {c : Int} (h0 : 0 ≤ c) (h : (stepW d x c).1 = false) : 0 ≤ (stepW d x c).2 ∧ (stepW d x c).2 ≤ c := by
  have h1 : (walkF x d c).1 = true := by simpa [stepW] using h
  obtain ⟨w1, w2⟩ := walkF_spec x d c h0
  have := w2 h1
  have := w1.1 h1
  show 0 ≤ (walkF x d c).2 ∧ (walkF x d c).2 ≤ c
  omega
theorem predtype_formed1 (bl bw : Nat) (hb : ¬ bl = bw) (t : Pd) : szF t ≤ 1000000 → ∀ d c : Int, 0 ≤ d → d ≤ 21 → 0 ≤ c → c ≤ 200 →
    MCalls Go.Proofs.Tryz.prog 158 [aPd t, ai d, .lp bl 1 0 0, .lp bw 1 0 0] (Lw bl bw c) fun r L => r = ab (walkF t d c).1 ∧ L = Lw bl bw (walkF t d c).2 := by
  induction t using Pd.ind with
  | _ k n p q s l ih =>
  intro hz d c d0 d1 c0 c1
  have hsz : szF (.mk k n p q s l) = szL l + 1 := by rw [szF]
  have hll := szL_len l
  have hb' : ¬ bw = bl := fun e => hb e.symm
  have hft := predtype_fits _ hz
  have hkid : d ≤ 20 → ∀ x ∈ l, ∀ c' : Int, 0 ≤ c' ∧ c' ≤ 200 → MVal Go.Proofs.Tryz.prog (.clo 160 [.lp bw 1 0 0, .rp 1 [ai d] 0 0]) [aPd x] (Lw bl bw c') fun r L => r = ab (stepW (d + 1) x c').1 ∧ L = Lw bl bw (stepW (d + 1) x c').2 := by
    intro hd x hx c' hc'
    have hxi := szL_mem hx
    have hch := ih x hx (by omega) (d + 1) c' (by omega) (by omega) hc'.1 hc'.2
    have e1 : (stepW (d + 1) x c').1 = !(walkF x (d + 1) c').1 := rfl
    have e2 : (stepW (d + 1) x c').2 = (walkF x (d + 1) c').2 := rfl
    rw [e1, e2]
    generalize walkF x (d + 1) c' = w at *
    obtain ⟨k2, n2, p2, q2, s2, l2⟩ := x
    refine MCalls.clo ?_
    unfold Lw aWalk at *
    simp only [aPd_mk] at *
    refine MCalls.enter' 11 [.tmp 4] [3] Go.Proofs.Tryz.func160 rfl rfl rfl rfl rfl (by simp) (AWp.of ?_); simp only [go_sem]
    repeat (first | ((with_reducible refine AWp.ofC ?_ ?_); (focus exact rfl); simp only [go_sem, hb']) | ((with_reducible refine an ?_ ?_); focus exact Au))
    repeat ((with_reducible refine an ?_ ?_); focus exact As)
    refine (MCalls.clo hch).mono ?_
    rintro r L ⟨rfl, rfl⟩
    simp only [go_sem]
    repeat (first | ((with_reducible refine AWp.ofC ?_ ?_); (focus exact rfl); simp only [go_sem]) | ((with_reducible refine an ?_ ?_); focus exact Au))
    refine ret_own ?_
    simp only [go_sem]
  have hsp : walkF (.mk k n p q s l) d c = if c - 1 < 0 ∨ 20 < d ∨ locB (.mk k n p q s l) = false then (false, c - 1) else walkL l (d + 1) (c - 1) := by rw [walkF]
  have hcs : d ≤ 20 → 0 ≤ c - 1 → _ := fun h1 h2 => preds_containsS (stepW (d + 1)) (Lw bl bw) (fun c => 0 ≤ c ∧ c ≤ 200) l (by omega) (.clo 160 [.lp bw 1 0 0, .rp 1 [ai d] 0 0]) rfl (hkid h1) (fun x hx c' hc' h => by have := stepW_inv hc'.1 h; omega) (c - 1) (by omega)
  obtain ⟨f1, f2⟩ := findS_walk (d + 1) l (c - 1)
  rw [f1, f2] at hcs
  generalize walkL l (d + 1) (c - 1) = w at *
  generalize locB (.mk k n p q s l) = b at *
  generalize walkF (.mk k n p q s l) d c = z at *
  unfold Lw aWalk at *
  simp only [aPd_mk] at *
  refine MCalls.enter' 25 [.tmp 6] [4, 5] Go.Proofs.Tryz.func158 rfl rfl rfl rfl rfl (by simp) (AWp.of ?_); simp only [go_sem]
  repeat (first | ((with_reducible refine AWp.ofC ?_ ?_); (focus exact rfl); simp only [go_sem, hb]) | ((with_reducible refine an ?_ ?_); focus exact Au))
  repeat ((with_reducible refine an ?_ ?_); focus exact As)
  refine GCall.use (ab b) (fun _ => ⟨At, (hft).val.use ⟨rfl, rfl⟩⟩) ?_; simp only [go_sem]
  repeat ((with_reducible refine an ?_ ?_); focus exact As)
  repeat (first | ((with_reducible refine AWp.ofC ?_ ?_); (focus exact rfl); simp only [go_sem]) | ((with_reducible refine an ?_ ?_); focus exact Au))
  refine ⟨fun h1 => ?_, fun h1 => ?_⟩
  · have hz' : z = (false, c - 1) := by
      rw [hsp, if_pos]
      rcases h1 with (h1 | h1) | h1
      · exact .inl h1
      · exact .inr (.inl h1)
      · exact .inr (.inr (by simpa using h1))
    repeat (first | ((with_reducible refine AWp.ofC ?_ ?_); (focus exact rfl); simp only [go_sem]) | ((with_reducible refine an ?_ ?_); focus exact Au))
    refine ret_own ?_
    simp only [go_sem]
    rw [hz']; exact ⟨rfl, rfl⟩
  intro h2 h3
  have hz' : z = w := by rw [hsp, if_neg]; rintro (h | h | h); exact h1 h; exact h2 h; rw [h3] at h; cases h
  have hcs := hcs (by omega) (by omega)
  repeat (first | ((with_reducible refine AWp.ofC ?_ ?_); (focus exact rfl); simp only [go_sem, hb']) | ((with_reducible refine an ?_ ?_); focus exact Au))
  repeat ((with_reducible refine an ?_ ?_); focus exact As)
  refine hcs.val.mono ?_
  rintro r L ⟨rfl, rfl⟩
  simp only [go_sem]
  repeat (first | ((with_reducible refine AWp.ofC ?_ ?_); (focus exact rfl); simp only [go_sem]) | ((with_reducible refine an ?_ ?_); focus exact Au))
  refine ret_own ?_
  simp only [go_sem]
  rw [hz']; exact ⟨rfl, rfl⟩
theorem predtype_formed (t : Pd) (hz : szF t ≤ 1000000) : PC Go.Proofs.Tryz.prog 122 [aPd t] (ab (formedB t)) := by
  rw [← walkF_formed]
  have hw := fun bl bw hb => predtype_formed1 bl bw hb t hz 1 200 (by decide) (by decide) (by decide) (by decide)
  unfold Lw aWalk at hw
  generalize walkF t 1 200 = w at *
  obtain ⟨k, n, p, q, s, l⟩ := t
  simp only [aPd_mk] at *
  refine PC.enter 9 [.tmp 2] [1] Go.Proofs.Tryz.func122 rfl rfl rfl rfl rfl (by simp) (AWp.of ?_); simp only [go_sem]
  repeat (first | ((with_reducible refine AWp.ofC ?_ ?_); (focus exact rfl); simp only [go_sem]) | ((with_reducible refine an ?_ ?_); focus exact Au))
  intro bl
  repeat (first | ((with_reducible refine AWp.ofC ?_ ?_); (focus exact rfl); simp only [go_sem]) | ((with_reducible refine an ?_ ?_); focus exact Au))
  intro bw hlt
  have hb : ¬ bw = bl := by omega
  have hb' : ¬ bl = bw := by omega
  repeat (first | ((with_reducible refine AWp.ofC ?_ ?_); (focus exact rfl); simp only [go_sem, hb]) | ((with_reducible refine an ?_ ?_); focus exact Au))
  repeat ((with_reducible refine an ?_ ?_); focus exact As)
  refine (MCalls.clo (hw bl bw hb')).mono ?_
  rintro r L ⟨rfl, rfl⟩
  simp only [go_sem]
  repeat (first | ((with_reducible refine AWp.ofC ?_ ?_); (focus exact rfl); simp only [go_sem]) | ((with_reducible refine an ?_ ?_); focus exact Au))
  refine ret_eq ?_; simp only [go_sem]
theorem predtype_Type (t : Pd) (hz : szF t ≤ 1000000) : ∃ x : Int, PC Go.Proofs.Tryz.prog 84 [aPd t] (.tup [ai x, ai (if formedB t = false then 1 else if typedB t = false then 14 else 0)]) := by
  have hf := predtype_formed t hz
  have ht := predtype_typed t hz
  have hr := predtype_result t.kind
  refine ⟨if formedB t = false then 0 else if typedB t = false then 0 else resF t.kind, ?_⟩
  generalize formedB t = f at *
  generalize typedB t = y at *
  obtain ⟨k, n, p, q, s, l⟩ := t
  simp only [aPd_mk, Pd.kind] at *
  generalize resF k = r at *
  refine PC.enter 15 [.tmp 2, .tmp 3] [1] Go.Proofs.Tryz.func84 rfl rfl rfl rfl rfl (by simp) (AWp.of ?_); simp only [go_sem]
  repeat (first | ((with_reducible refine AWp.ofC ?_ ?_); (focus exact rfl); simp only [go_sem]) | ((with_reducible refine an ?_ ?_); focus exact Au))
  repeat ((with_reducible refine an ?_ ?_); focus exact As)
  refine (hf).val.use ?_; simp only [go_sem]
  repeat (first | ((with_reducible refine AWp.ofC ?_ ?_); (focus exact rfl); simp only [go_sem]) | ((with_reducible refine an ?_ ?_); focus exact Au))
  refine ⟨fun h1 => ?_, fun h1 => ?_⟩
  · repeat (first | ((with_reducible refine AWp.ofC ?_ ?_); (focus exact rfl); simp only [go_sem]) | ((with_reducible refine an ?_ ?_); focus exact Au))
    refine ret_eq ?_; simp only [go_sem]
    simp [h1]
  repeat (first | ((with_reducible refine AWp.ofC ?_ ?_); (focus exact rfl); simp only [go_sem]) | ((with_reducible refine an ?_ ?_); focus exact Au))
  repeat ((with_reducible refine an ?_ ?_); focus exact As)
  refine (ht).val.use ?_; simp only [go_sem]
  repeat (first | ((with_reducible refine AWp.ofC ?_ ?_); (focus exact rfl); simp only [go_sem]) | ((with_reducible refine an ?_ ?_); focus exact Au))
  refine ⟨fun h2 => ?_, fun h2 => ?_⟩
  · repeat (first | ((with_reducible refine AWp.ofC ?_ ?_); (focus exact rfl); simp only [go_sem]) | ((with_reducible refine an ?_ ?_); focus exact Au))
    refine ret_eq ?_; simp only [go_sem]
    simp [h1, h2]
  repeat (first | ((with_reducible refine AWp.ofC ?_ ?_); (focus exact rfl); simp only [go_sem]) | ((with_reducible refine an ?_ ?_); focus exact Au))
  repeat ((with_reducible refine an ?_ ?_); focus exact As)
  refine (hr).val.use ?_; simp only [go_sem]
  repeat (first | ((with_reducible refine AWp.ofC ?_ ?_); (focus exact rfl); simp only [go_sem]) | ((with_reducible refine an ?_ ?_); focus exact Au))
  refine ret_eq ?_; simp only [go_sem]
  simp [h1, h2]
theorem prune_formed (t : Pd) (hz : szF t ≤ 1000000) : PC Go.Proofs.Tryz.prog 50 [aPd t] (ab (formedB t)) := by
  obtain ⟨x, ht⟩ := predtype_Type t hz
  generalize formedB t = f at *
  generalize typedB t = y at *
  obtain ⟨k, n, p, q, s, l⟩ := t
  simp only [aPd_mk] at *
  have hb : (!decide ((if f = false then (1 : Int) else if y = false then 14 else 0) = 1)) = f := by cases f <;> cases y <;> rfl
  generalize (if f = false then (1 : Int) else if y = false then 14 else 0) = e at *
  refine PC.enter 12 [.tmp 2] [1] Go.Proofs.Tryz.func50 rfl rfl rfl rfl rfl (by simp) (AWp.of ?_); simp only [go_sem]
  repeat (first | ((with_reducible refine AWp.ofC ?_ ?_); (focus exact rfl); simp only [go_sem]) | ((with_reducible refine an ?_ ?_); focus exact Au))
  repeat ((with_reducible refine an ?_ ?_); focus exact As)
  refine (ht).val.use ?_; simp only [go_sem]
  repeat (first | ((with_reducible refine AWp.ofC ?_ ?_); (focus exact rfl); simp only [go_sem]) | ((with_reducible refine an ?_ ?_); focus exact Au))
  refine ret_eq ?_; simp only [go_sem]
  exact congrArg ab hb
end Go.AL
end
section
/- Rewritten trees. No condition. -/
namespace Go.AL
open Go Go.RowKit
set_option maxRecDepth 4000
/-! ### Counts of processes that there are -/
def covB (m : Int) : Pd → Bool
  | .mk k _ p _ _ _ => !(decide (k = 3) && (decide (p < 0) || decide (m ≤ p)))
theorem ref49_counted (m : Int) (t : Pd) : szF t ≤ 1000000 → PC Go.Proofs.Tryz.prog 54 [aPd t, ai m] (ab (allB (covB m) t)) := by
  induction t using Pd.ind with
  | _ k n p q s l ih =>
  intro hz
  have hsz : szF (.mk k n p q s l) = szL l + 1 := by rw [szF]
  have hll := szL_len l
  have hsp : allB (covB m) (.mk k n p q s l) = (covB m (.mk k n p q s l) && l.all (allB (covB m))) := by rw [allB_mk]
  have hc1 : covB m (.mk k n p q s l) = !(decide (k = 3) && (decide (p < 0) || decide (m ≤ p))) := rfl
  generalize allB (covB m) (.mk k n p q s l) = B at *
  generalize covB m (.mk k n p q s l) = b at *
  refine PC.enter 35 [.tmp 4] [2] Go.Proofs.Tryz.func54 rfl rfl rfl rfl rfl (by simp) (AWp.of ?_); simp only [go_sem]
  repeat (first | ((with_reducible refine AWp.ofC ?_ ?_); (focus exact rfl); simp only [go_sem]) | ((with_reducible refine an ?_ ?_); focus exact Au))
  repeat (first | ((with_reducible refine AWp.ofC ?_ ?_); (focus exact rfl); simp only [go_sem]) | ((with_reducible refine an ?_ ?_); focus exact Au))
  refine ⟨fun h1 h2 => ?_, fun h1 => ?_⟩
  · repeat (first | ((with_reducible refine AWp.ofC ?_ ?_); (focus exact rfl); simp only [go_sem]) | ((with_reducible refine an ?_ ?_); focus exact Au))
    refine ret_eq ?_; simp only [go_sem]
    rw [hsp, hc1]; simp [h1]; intro a1 a2; omega
  have hb : b = true := by
    rw [hc1]
    by_cases e : k = 3
    · have := h1 e; simp only [e, decide_true, Bool.true_and]; simp; omega
    · simp [e]
  rw [hb, Bool.true_and] at hsp
  repeat (first | ((with_reducible refine AWp.ofC ?_ ?_); (focus exact rfl); simp only [go_sem]) | ((with_reducible refine an ?_ ?_); focus exact Au))
  refine AWp.block (AWp.count 5 l.length [] [1, 2] (fun i vs L => L = [] ∧ ∀ j (hj : j < l.length), j < i → allB (covB m) l[j] = true) rfl rfl ⟨rfl, by omega⟩ ?_)
  rintro i vs L hi - ⟨rfl, hI⟩
  simp only [go_sem]
  repeat (first | ((with_reducible refine AWp.ofC ?_ ?_); (focus exact rfl); simp only [go_sem]) | ((with_reducible refine an ?_ ?_); focus exact Au))
  refine ⟨fun h4 => ?_, fun h4 => ?_⟩
  · have hil : i < l.length := by omega
    have hgi := getD_map (f := aPd) hil
    have hzi := szL_mem (List.getElem_mem hil)
    have hch := ih l[i] (List.getElem_mem hil) (by omega)
    have hnx := all_next hI hil
    have hno := all_not (f := allB (covB m)) hil
    generalize l[i] = x at *
    obtain ⟨k2, n2, p2, q2, s2, l2⟩ := x
    simp only [aPd_mk] at hgi hch
    repeat (first | ((with_reducible refine AWp.ofC ?_ ?_); (focus exact rfl); simp only [go_sem, hgi]) | ((with_reducible refine an ?_ ?_); focus exact Au))
    repeat ((with_reducible refine an ?_ ?_); focus exact As)
    refine (hch).val.use ?_; simp only [go_sem]
    repeat (first | ((with_reducible refine AWp.ofC ?_ ?_); (focus exact rfl); simp only [go_sem]) | ((with_reducible refine an ?_ ?_); focus exact Au))
    refine ⟨fun h5 => ?_, fun h5 => ?_⟩
    · repeat (first | ((with_reducible refine AWp.ofC ?_ ?_); (focus exact rfl); simp only [go_sem]) | ((with_reducible refine an ?_ ?_); focus exact Au))
      refine ret_eq ?_; simp only [go_sem]
      rw [hsp, hno h5]
    · repeat (first | ((with_reducible refine AWp.ofC ?_ ?_); (focus exact rfl); simp only [go_sem]) | ((with_reducible refine an ?_ ?_); focus exact Au))
      exact ⟨_, List.Sublist.refl _, rfl, hnx h5⟩
  · repeat (first | ((with_reducible refine AWp.ofC ?_ ?_); (focus exact rfl); simp only [go_sem]) | ((with_reducible refine an ?_ ?_); focus exact Au))
    refine ret_eq ?_; simp only [go_sem]
    rw [hsp, all_of hI (by omega)]
theorem prune_covered (m : Int) (t : Pd) : szF t ≤ 1000000 → PC Go.Proofs.Tryz.prog 51 [aPd t, ai m] (ab (allB (covB m) t)) := by
  induction t using Pd.ind with
  | _ k n p q s l ih =>
  intro hz
  have hsz : szF (.mk k n p q s l) = szL l + 1 := by rw [szF]
  have hll := szL_len l
  have h1 : ∀ x ∈ l, PV Go.Proofs.Tryz.prog (.clo 85 [.rp 1 [ai m] 0 0]) [aPd x] (ab (!allB (covB m) x)) := by
    intro x hx
    have hxi := szL_mem hx
    have hch := ih x hx (by omega)
    generalize allB (covB m) x = b at *
    obtain ⟨k2, n2, p2, q2, s2, l2⟩ := x
    refine PC.clo ?_
    simp only [aPd_mk] at *
    refine PC.enter 8 [.tmp 3] [2] Go.Proofs.Tryz.func85 rfl rfl rfl rfl rfl (by simp) (AWp.of ?_); simp only [go_sem]
    repeat (first | ((with_reducible refine AWp.ofC ?_ ?_); (focus exact rfl); simp only [go_sem]) | ((with_reducible refine an ?_ ?_); focus exact Au))
    repeat ((with_reducible refine an ?_ ?_); focus exact As)
    refine (hch).val.use ?_; simp only [go_sem]
    repeat (first | ((with_reducible refine AWp.ofC ?_ ?_); (focus exact rfl); simp only [go_sem]) | ((with_reducible refine an ?_ ?_); focus exact Au))
    refine ret_eq ?_; simp only [go_sem]
  have hc := preds_containsFunc l (by omega) _ rfl (fun x => !allB (covB m) x) h1
  have hsp : allB (covB m) (.mk k n p q s l) = (covB m (.mk k n p q s l) && !l.any fun x => !allB (covB m) x) := by
    rw [allB_mk]; congr 1
    rw [List.all_eq_not_any_not]
  have hc1 : covB m (.mk k n p q s l) = !(decide (k = 3) && (decide (p < 0) || decide (m ≤ p))) := rfl
  generalize allB (covB m) (.mk k n p q s l) = B at *
  generalize covB m (.mk k n p q s l) = b at *
  generalize (l.any fun x => !allB (covB m) x) = c at *
  refine PC.enter 24 [.tmp 4] [2, 3] Go.Proofs.Tryz.func51 rfl rfl rfl rfl rfl (by simp) (AWp.of ?_); simp only [go_sem]
  repeat (first | ((with_reducible refine AWp.ofC ?_ ?_); (focus exact rfl); simp only [go_sem]) | ((with_reducible refine an ?_ ?_); focus exact Au))
  repeat (first | ((with_reducible refine AWp.ofC ?_ ?_); (focus exact rfl); simp only [go_sem]) | ((with_reducible refine an ?_ ?_); focus exact Au))
  refine ⟨fun h1 h2 => ?_, fun h1 => ?_⟩
  · repeat (first | ((with_reducible refine AWp.ofC ?_ ?_); (focus exact rfl); simp only [go_sem]) | ((with_reducible refine an ?_ ?_); focus exact Au))
    refine ret_eq ?_; simp only [go_sem]
    rw [hsp, hc1]; simp [h1]; intro a1 a2; omega
  have hb : b = true := by
    rw [hc1]
    by_cases e : k = 3
    · have := h1 e; simp only [e, decide_true, Bool.true_and]; simp; omega
    · simp [e]
  rw [hb, Bool.true_and] at hsp
  repeat (first | ((with_reducible refine AWp.ofC ?_ ?_); (focus exact rfl); simp only [go_sem]) | ((with_reducible refine an ?_ ?_); focus exact Au))
  repeat ((with_reducible refine an ?_ ?_); focus exact As)
  refine (hc).val.use ?_; simp only [go_sem]
  repeat (first | ((with_reducible refine AWp.ofC ?_ ?_); (focus exact rfl); simp only [go_sem]) | ((with_reducible refine an ?_ ?_); focus exact Au))
  refine ret_eq ?_; simp only [go_sem]
  rw [hsp]
/-! ### Rewritten trees -/
mutual
def rwF (c : List Int) : Pd → Pd
  | .mk k n p q s l => if k = 3 then .mk 6 0 0 0 ByteArray.empty [.mk k n p q s l, .mk 1 (c.getD p.toNat 0) 0 0 ByteArray.empty []] else .mk k n p q s (rwL c l)
def rwL (c : List Int) : List Pd → List Pd
  | [] => []
  | x :: r => rwF c x :: rwL c r
end
theorem rwL_map (c : List Int) : ∀ l, rwL c l = l.map (rwF c)
  | [] => by rw [rwL]; rfl
  | x :: r => by rw [rwL, rwL_map c r]; rfl
def aPd0 : AV := .agg [ai 0, ai 0, ai 0, ai 0, astr ByteArray.empty, anil]
theorem ref49_rewritten (c : List Int) (hc : c.length ≤ 1000000) (t : Pd) : szF t ≤ 1000000 → allB (covB c.length) t = true → PC Go.Proofs.Tryz.prog 55 [aPd t, aInts c] (aPd (rwF c t)) := by
  induction t using Pd.ind with
  | _ k n p q s l ih =>
  intro hz hcv
  have hsz : szF (.mk k n p q s l) = szL l + 1 := by rw [szF]
  have hll := szL_len l
  rw [allB_mk, Bool.and_eq_true] at hcv
  obtain ⟨hcv, hcl⟩ := hcv
  have hsp : rwF c (.mk k n p q s l) = if k = 3 then .mk 6 0 0 0 ByteArray.empty [.mk k n p q s l, .mk 1 (c.getD p.toNat 0) 0 0 ByteArray.empty []] else .mk k n p q s (l.map (rwF c)) := by rw [rwF, rwL_map]
  generalize rwF c (.mk k n p q s l) = T at *
  refine PC.enter 41 [.cell 4 28] [2, 37] Go.Proofs.Tryz.func55 rfl rfl rfl rfl rfl (by simp) (AWp.of ?_); simp only [go_sem]
  intro b4
  repeat (first | ((with_reducible refine AWp.ofC ?_ ?_); (focus exact rfl); simp only [go_sem]) | ((with_reducible refine an ?_ ?_); focus exact Au))
  refine ⟨fun h1 => ?_, fun h1 => ?_⟩
  · rw [if_pos h1] at hsp
    have hp : 0 ≤ p ∧ p < c.length := by
      simp only [covB, h1, decide_true, Bool.true_and, Bool.not_eq_true', Bool.or_eq_false_iff, decide_eq_false_iff_not] at hcv
      omega
    have hpn : p.toNat < c.length := by omega
    have hgp : (c.map ai).getD p.toNat .any = ai c[p.toNat] := getD_map hpn
    have hcd : c.getD p.toNat 0 = c[p.toNat] := by rw [List.getD_eq_getElem?_getD, List.getElem?_eq_getElem hpn]; rfl
    rw [hcd] at hsp
    refine AWp.mix mixed [0, 1, 2, 3, 4, 5, 6] (.step 7 (.step 8 (.step 9 .done .done) .done) .done) (by kernel_rfl) ?_; simp only [go_sem, hgp]
    repeat ((with_reducible refine an ?_ ?_); focus exact As)
    intro b hlt
    have nb : ¬ b4 = b := by omega
    simp only [go_sem, nb]
    repeat ((with_reducible refine an ?_ ?_); focus exact As)
    repeat (first | ((with_reducible refine AWp.ofC ?_ ?_); (focus exact rfl); simp only [go_sem, nb]) | ((with_reducible refine an ?_ ?_); focus exact Au))
    refine ret_view [true] ?_; simp only [go_sem, nb]
    rw [hsp]
    simp only [aPd_mk, List.map_cons, List.map_nil]
    refine .mkAgg (Vws.cons (.refl _) (Vws.cons (.refl _) (Vws.cons (.refl _) (Vws.cons (.refl _) (Vws.cons (.refl _) (Vws.cons (.ls (if_pos rfl) (by simp) (by simp) ?_) .nil))))))
    exact (Vws.cons (.refl _) (Vws.cons (.mkAgg (Vws.cons (.refl _) (Vws.cons (.refl _) (Vws.cons (.refl _) (Vws.cons (.refl _) (Vws.cons (.refl _) (Vws.cons (.nil 6) .nil))))))) .nil)).2
  · rw [if_neg h1] at hsp
    repeat (first | ((with_reducible refine AWp.ofC ?_ ?_); (focus exact rfl); simp only [go_sem]) | ((with_reducible refine an ?_ ?_); focus exact Au))
    intro b5 hlt
    have n1 : ¬ b4 = b5 := by omega
    have n2 : ¬ b5 = b4 := by omega
    repeat (first | ((with_reducible refine AWp.ofC ?_ ?_); (focus exact rfl); simp only [go_sem, n2]) | ((with_reducible refine an ?_ ?_); focus exact Au))
    refine AWp.block (AWp.count 6 l.length [] [1, 2, 4, 5] (fun i vs L => ∃ v Ln, L = Ln ++ [(b5, ABlk.row 28 6 [.agg [ai k, ai n, ai p, ai q, astr s, v]] 1), (b4, ABlk.row 28 6 [aPd0] 1)] ∧ AppSt 28 6 (((l.take i).map (rwF c)).map aPd) v Ln ∧ ∀ x ∈ Ln, x.1 ≠ b5 ∧ x.1 ≠ b4) rfl rfl ⟨anil, [], rfl, .nil, by simp⟩ ?_)
    rintro i vs L hi - ⟨v, Ln, rfl, hA, hne⟩
    simp only [go_sem]
    repeat (first | ((with_reducible refine AWp.ofC ?_ ?_); (focus exact rfl); simp only [go_sem]) | ((with_reducible refine an ?_ ?_); focus exact Au))
    refine ⟨fun h4 => ?_, fun h4 => ?_⟩
    · have hil : i < l.length := by omega
      have hgi := getD_map (f := aPd) hil
      have hzi := szL_mem (List.getElem_mem hil)
      have hch := ih l[i] (List.getElem_mem hil) (by omega) (List.all_eq_true.1 hcl _ (List.getElem_mem hil))
      have hsu : ((l.take (i + 1)).map (rwF c)).map aPd = ((l.take i).map (rwF c)).map aPd ++ [aPd (rwF c l[i])] := by
        rw [List.take_succ_eq_append_getElem hil, List.map_append, List.map_append]; rfl
      have hyl : (((l.take i).map (rwF c)).map aPd).length ≤ 1000000 := by simp; omega
      generalize ((l.take i).map (rwF c)).map aPd = ys at *
      generalize rwF c l[i] = z at *
      generalize l[i] = x at *
      obtain ⟨k2, m2, p2, q2, s2, l2⟩ := x
      obtain ⟨k3, o3, p3, q3, s3, l3⟩ := z
      simp only [aPd_mk] at hgi hch hsu
      rcases hA.inv with ⟨e1, rfl, rfl⟩ | ⟨b, cap, rfl, rfl⟩
      · repeat (first | ((with_reducible refine AWp.ofC ?_ ?_); (focus exact rfl); simp only [go_sem]) | ((with_reducible refine an ?_ ?_); focus exact Au))
        refine AWp.seq (AWp.block ?_)
        refine AWp.mix mixed [0, 2, 3, 4, 5, 6, 7, 8] (.step 1 (.step 9 (.step 10 (.step 11 (.step 12 .done .done) .done) .done) .done) (.step 9 (.step 1 (.step 10 (.step 11 (.step 12 .done .done) .done) .done) .done) .done)) (by kernel_rfl) ?_; simp only [go_sem, hgi, n2]
        repeat ((with_reducible refine an ?_ ?_); focus exact As)
        refine GCall.use (.agg [ai k3, ai o3, ai p3, ai q3, astr s3, .sl 6 (l3.map aPd)]) (fun _ => ⟨At, (hch).val.use ⟨rfl, rfl⟩⟩) ?_; simp only [go_sem, n2]
        repeat' (first | (with_reducible refine And.intro ?_ ?_) | intro _)
        all_goals first | omega | skip
        all_goals
          rename_i b' cap' f1 f2 f3
          have n5 : ¬ b5 = b' := by omega
          have n6 : ¬ b4 = b' := by omega
          simp only [go_sem, n5, n6]
          repeat ((with_reducible refine an ?_ ?_); focus exact As)
          repeat (first | ((with_reducible refine AWp.ofC ?_ ?_); (focus exact rfl); simp only [go_sem, n5, n6]) | ((with_reducible refine an ?_ ?_); focus exact Au))
          refine ⟨_, List.Sublist.refl _, _, [(b', .row 28 6 [_] cap')], rfl, ?_, ?_⟩
          · rw [hsu, e1]; exact .row _ [_] _
          · intro p hp; simp at hp; subst hp; exact ⟨fun e => n5 e.symm, fun e => n6 e.symm⟩
      · have m1 : ¬ b = b5 := (hne (b, _) List.mem_cons_self).1
        have m2 : ¬ b = b4 := (hne (b, _) List.mem_cons_self).2
        have m3 : ¬ b5 = b := fun e => m1 e.symm
        have m4 : ¬ b4 = b := fun e => m2 e.symm
        repeat (first | ((with_reducible refine AWp.ofC ?_ ?_); (focus exact rfl); simp only [go_sem]) | ((with_reducible refine an ?_ ?_); focus exact Au))
        refine AWp.seq (AWp.block ?_)
        refine AWp.mix mixed [0, 2, 3, 4, 5, 6, 7, 8] (.step 1 (.step 9 (.step 10 (.step 11 (.step 12 .done .done) .done) .done) .done) (.step 9 (.step 1 (.step 10 (.step 11 (.step 12 .done .done) .done) .done) .done) .done)) (by kernel_rfl) ?_; simp only [go_sem, hgi, n2, m1, m3]
        repeat ((with_reducible refine an ?_ ?_); focus exact As)
        refine GCall.use (.agg [ai k3, ai o3, ai p3, ai q3, astr s3, .sl 6 (l3.map aPd)]) (fun _ => ⟨At, (hch).val.use ⟨rfl, rfl⟩⟩) ?_; simp only [go_sem, n2, m1, m3]
        repeat' (first | (with_reducible refine And.intro ?_ ?_) | intro _)
        all_goals first | omega | skip
        all_goals
          rename_i b' cap' n5 n6 f3
          simp only [go_sem, n5, n6]
          repeat ((with_reducible refine an ?_ ?_); focus exact As)
          repeat (first | ((with_reducible refine AWp.ofC ?_ ?_); (focus exact rfl); simp only [go_sem, n5, n6]) | ((with_reducible refine an ?_ ?_); focus exact Au))
          refine ⟨_, List.Sublist.refl _, _, [(b', .row 28 6 (ys ++ [_]) cap')], rfl, ?_, ?_⟩
          · rw [hsu]
            have := AppSt.row (t := 28) (k := 6) b' (ys ++ [.agg [ai k3, ai o3, ai p3, ai q3, astr s3, .sl 6 (l3.map aPd)]]) cap'
            simpa using this
          · intro p hp; simp at hp; subst hp; exact ⟨fun e => n5 e.symm, fun e => n6 e.symm⟩
    · have hil : i = l.length := by omega
      rw [hil, List.take_length] at hA
      have hee : aPd T = .agg [ai k, ai n, ai p, ai q, astr s, .sl 6 ((l.map (rwF c)).map aPd)] := by rw [hsp, aPd_mk]
      generalize (l.map (rwF c)).map aPd = ys at *
      rw [hee]
      rcases hA.inv with ⟨e1, rfl, rfl⟩ | ⟨b, cap, rfl, rfl⟩
      · repeat (first | ((with_reducible refine AWp.ofC ?_ ?_); (focus exact rfl); simp only [go_sem, n1, n2, aPd0]) | ((with_reducible refine an ?_ ?_); focus exact Au))
        refine ret_view [] ?_; simp only [go_sem, n1, n2]
        rw [e1]
        exact .mkAgg (Vws.cons (.refl _) (Vws.cons (.refl _) (Vws.cons (.refl _) (Vws.cons (.refl _) (Vws.cons (.refl _) (Vws.cons (.nil 6) .nil))))))
      · have m1 : ¬ b5 = b := fun e => (hne (b, _) List.mem_cons_self).1 e.symm
        have m2 : ¬ b4 = b := fun e => (hne (b, _) List.mem_cons_self).2 e.symm
        repeat (first | ((with_reducible refine AWp.ofC ?_ ?_); (focus exact rfl); simp only [go_sem, n1, n2, m1, m2, aPd0]) | ((with_reducible refine an ?_ ?_); focus exact Au))
        refine ret_view [true] ?_; simp only [go_sem, n1, n2, m1, m2]
        exact .mkAgg (Vws.cons (.refl _) (Vws.cons (.refl _) (Vws.cons (.refl _) (Vws.cons (.refl _) (Vws.cons (.refl _) (Vws.cons (Vw.ofLs (if_pos rfl) rfl) .nil))))))
theorem prune_rewrite (c : List Int) (hc : c.length ≤ 1000000) (t : Pd) : szF t ≤ 1000000 → allB (covB c.length) t = true → PC Go.Proofs.Tryz.prog 52 [aPd t, aInts c] (aPd (rwF c t)) := by
  induction t using Pd.ind with
  | _ k n p q s l ih =>
  intro hz hcv
  have hsz : szF (.mk k n p q s l) = szL l + 1 := by rw [szF]
  have hll := szL_len l
  rw [allB_mk, Bool.and_eq_true] at hcv
  obtain ⟨hcv, hcl⟩ := hcv
  have hsp : rwF c (.mk k n p q s l) = if k = 3 then .mk 6 0 0 0 ByteArray.empty [.mk k n p q s l, .mk 1 (c.getD p.toNat 0) 0 0 ByteArray.empty []] else .mk k n p q s (l.map (rwF c)) := by rw [rwF, rwL_map]
  generalize rwF c (.mk k n p q s l) = T at *
  refine PC.enter 39 [.cell 4 28] [2, 7, 34] Go.Proofs.Tryz.func52 rfl rfl rfl rfl rfl (by simp) (AWp.of ?_); simp only [go_sem]
  intro b4
  repeat (first | ((with_reducible refine AWp.ofC ?_ ?_); (focus exact rfl); simp only [go_sem]) | ((with_reducible refine an ?_ ?_); focus exact Au))
  refine ⟨fun h1 => ?_, fun h1 => ?_⟩
  · rw [if_pos h1] at hsp
    have hp : 0 ≤ p ∧ p < c.length := by
      simp only [covB, h1, decide_true, Bool.true_and, Bool.not_eq_true', Bool.or_eq_false_iff, decide_eq_false_iff_not] at hcv
      omega
    have hpn : p.toNat < c.length := by omega
    have hgp : (c.map ai).getD p.toNat .any = ai c[p.toNat] := getD_map hpn
    have hcd : c.getD p.toNat 0 = c[p.toNat] := by rw [List.getD_eq_getElem?_getD, List.getElem?_eq_getElem hpn]; rfl
    rw [hcd] at hsp
    refine AWp.mix mixed [0, 1, 2, 3, 4, 5, 6] (.step 7 (.step 8 (.step 9 .done .done) .done) .done) (by kernel_rfl) ?_; simp only [go_sem, hgp]
    repeat ((with_reducible refine an ?_ ?_); focus exact As)
    intro b hlt
    have nb : ¬ b4 = b := by omega
    simp only [go_sem, nb]
    repeat ((with_reducible refine an ?_ ?_); focus exact As)
    repeat (first | ((with_reducible refine AWp.ofC ?_ ?_); (focus exact rfl); simp only [go_sem, nb]) | ((with_reducible refine an ?_ ?_); focus exact Au))
    refine ret_view [true] ?_; simp only [go_sem, nb]
    rw [hsp]
    simp only [aPd_mk, List.map_cons, List.map_nil]
    refine .mkAgg (Vws.cons (.refl _) (Vws.cons (.refl _) (Vws.cons (.refl _) (Vws.cons (.refl _) (Vws.cons (.refl _) (Vws.cons (.ls (if_pos rfl) (by simp) (by simp) ?_) .nil))))))
    exact (Vws.cons (.refl _) (Vws.cons (.mkAgg (Vws.cons (.refl _) (Vws.cons (.refl _) (Vws.cons (.refl _) (Vws.cons (.refl _) (Vws.cons (.refl _) (Vws.cons (.nil 6) .nil))))))) .nil)).2
  · rw [if_neg h1] at hsp
    repeat (first | ((with_reducible refine AWp.ofC ?_ ?_); (focus exact rfl); simp only [go_sem]) | ((with_reducible refine an ?_ ?_); focus exact Au))
    intro b5 hlt
    have n1 : ¬ b4 = b5 := by omega
    have n2 : ¬ b5 = b4 := by omega
    repeat (first | ((with_reducible refine AWp.ofC ?_ ?_); (focus exact rfl); simp only [go_sem, n2]) | ((with_reducible refine an ?_ ?_); focus exact Au))
    refine AWp.range' l.length [] [1, 4, 5, 23, 24] (fun i vs L => ∃ v Ln, L = Ln ++ [(b5, ABlk.row 28 6 [.agg [ai k, ai n, ai p, ai q, astr s, v]] 1), (b4, ABlk.row 28 6 [aPd0] 1)] ∧ AppSt 28 6 (((l.take i).map (rwF c)).map aPd) v Ln ∧ ∀ x ∈ Ln, x.1 ≠ b5 ∧ x.1 ≠ b4) (by omega) rfl rfl rfl ⟨anil, [], rfl, .nil, by simp⟩ ?_ ?_
    · rintro i vs L hil - ⟨v, Ln, rfl, hA, hne⟩
      simp only [go_sem]
      have hgi := getD_map (f := aPd) hil
      have hzi := szL_mem (List.getElem_mem hil)
      have hch := ih l[i] (List.getElem_mem hil) (by omega) (List.all_eq_true.1 hcl _ (List.getElem_mem hil))
      have hsu : ((l.take (i + 1)).map (rwF c)).map aPd = ((l.take i).map (rwF c)).map aPd ++ [aPd (rwF c l[i])] := by
        rw [List.take_succ_eq_append_getElem hil, List.map_append, List.map_append]; rfl
      have hyl : (((l.take i).map (rwF c)).map aPd).length ≤ 1000000 := by simp; omega
      generalize ((l.take i).map (rwF c)).map aPd = ys at *
      generalize rwF c l[i] = z at *
      generalize l[i] = x at *
      obtain ⟨k2, m2, p2, q2, s2, l2⟩ := x
      obtain ⟨k3, o3, p3, q3, s3, l3⟩ := z
      simp only [aPd_mk] at hgi hch hsu
      rcases hA.inv with ⟨e1, rfl, rfl⟩ | ⟨b, cap, rfl, rfl⟩
      · repeat (first | ((with_reducible refine AWp.ofC ?_ ?_); (focus exact rfl); simp only [go_sem, hgi]) | ((with_reducible refine an ?_ ?_); focus exact Au))
        intro b7 g1 g2
        have n7 : ¬ b5 = b7 := by omega
        have n8 : ¬ b7 = b5 := by omega
        repeat ((with_reducible refine an ?_ ?_); focus exact As)
        refine AWp.mix mixed [0, 2, 3, 4] (.step 1 (.step 5 (.step 6 (.step 7 (.step 8 .done .done) .done) .done) .done) (.step 5 (.step 1 (.step 6 (.step 7 (.step 8 .done .done) .done) .done) .done) .done)) (by kernel_rfl) ?_; simp only [go_sem, hgi, n2, n7, n8]
        repeat ((with_reducible refine an ?_ ?_); focus exact As)
        refine GCall.use (.agg [ai k3, ai o3, ai p3, ai q3, astr s3, .sl 6 (l3.map aPd)]) (fun _ => ⟨At, (hch).val.use ⟨rfl, rfl⟩⟩) ?_; simp only [go_sem, n2]
        repeat' (first | (with_reducible refine And.intro ?_ ?_) | intro _)
        all_goals first | omega | skip
        all_goals
          rename_i b' cap' f1 f2 f3
          have n5 : ¬ b5 = b' := by omega
          have n6 : ¬ b4 = b' := by omega
          simp only [go_sem, n5, n6]
          repeat ((with_reducible refine an ?_ ?_); focus exact As)
          repeat (first | ((with_reducible refine AWp.ofC ?_ ?_); (focus exact rfl); simp only [go_sem, n5, n6]) | ((with_reducible refine an ?_ ?_); focus exact Au))
          refine ⟨_, List.Sublist.refl _, _, [(b', .row 28 6 [_] cap')], rfl, ?_, ?_⟩
          · rw [hsu, e1]; exact .row _ [_] _
          · intro p hp; simp at hp; subst hp; exact ⟨fun e => n5 e.symm, fun e => n6 e.symm⟩
      · have m1 : ¬ b = b5 := (hne (b, _) List.mem_cons_self).1
        have m2 : ¬ b = b4 := (hne (b, _) List.mem_cons_self).2
        have m3 : ¬ b5 = b := fun e => m1 e.symm
        have m4 : ¬ b4 = b := fun e => m2 e.symm
        repeat (first | ((with_reducible refine AWp.ofC ?_ ?_); (focus exact rfl); simp only [go_sem, hgi]) | ((with_reducible refine an ?_ ?_); focus exact Au))
        intro b7 g0 g1 g2
        have n7 : ¬ b5 = b7 := by omega
        have n8 : ¬ b7 = b5 := by omega
        have n9 : ¬ b = b7 := by omega
        have n10 : ¬ b7 = b := by omega
        repeat ((with_reducible refine an ?_ ?_); focus exact As)
        refine AWp.mix mixed [0, 2, 3, 4] (.step 1 (.step 5 (.step 6 (.step 7 (.step 8 .done .done) .done) .done) .done) (.step 5 (.step 1 (.step 6 (.step 7 (.step 8 .done .done) .done) .done) .done) .done)) (by kernel_rfl) ?_; simp only [go_sem, hgi, n2, m1, m3, n7, n8, n9, n10]
        repeat ((with_reducible refine an ?_ ?_); focus exact As)
        refine GCall.use (.agg [ai k3, ai o3, ai p3, ai q3, astr s3, .sl 6 (l3.map aPd)]) (fun _ => ⟨At, (hch).val.use ⟨rfl, rfl⟩⟩) ?_; simp only [go_sem, n2, m1, m3]
        repeat' (first | (with_reducible refine And.intro ?_ ?_) | intro _)
        all_goals first | omega | skip
        all_goals
          rename_i b' cap' n5 n6 f3
          simp only [go_sem, n5, n6]
          repeat ((with_reducible refine an ?_ ?_); focus exact As)
          repeat (first | ((with_reducible refine AWp.ofC ?_ ?_); (focus exact rfl); simp only [go_sem, n5, n6]) | ((with_reducible refine an ?_ ?_); focus exact Au))
          refine ⟨_, List.Sublist.refl _, _, [(b', .row 28 6 (ys ++ [_]) cap')], rfl, ?_, ?_⟩
          · rw [hsu]
            have := AppSt.row (t := 28) (k := 6) b' (ys ++ [.agg [ai k3, ai o3, ai p3, ai q3, astr s3, .sl 6 (l3.map aPd)]]) cap'
            simpa using this
          · intro p hp; simp at hp; subst hp; exact ⟨fun e => n5 e.symm, fun e => n6 e.symm⟩
    · rintro vs L - ⟨v, Ln, rfl, hA, hne⟩
      simp only [go_sem]
      rw [List.take_length] at hA
      have hee : aPd T = .agg [ai k, ai n, ai p, ai q, astr s, .sl 6 ((l.map (rwF c)).map aPd)] := by rw [hsp, aPd_mk]
      generalize (l.map (rwF c)).map aPd = ys at *
      rw [hee]
      rcases hA.inv with ⟨e1, rfl, rfl⟩ | ⟨b, cap, rfl, rfl⟩
      · repeat (first | ((with_reducible refine AWp.ofC ?_ ?_); (focus exact rfl); simp only [go_sem, n1, n2, aPd0]) | ((with_reducible refine an ?_ ?_); focus exact Au))
        refine ret_view [] ?_; simp only [go_sem, n1, n2]
        rw [e1]
        exact .mkAgg (Vws.cons (.refl _) (Vws.cons (.refl _) (Vws.cons (.refl _) (Vws.cons (.refl _) (Vws.cons (.refl _) (Vws.cons (.nil 6) .nil))))))
      · have m1 : ¬ b5 = b := fun e => (hne (b, _) List.mem_cons_self).1 e.symm
        have m2 : ¬ b4 = b := fun e => (hne (b, _) List.mem_cons_self).2 e.symm
        repeat (first | ((with_reducible refine AWp.ofC ?_ ?_); (focus exact rfl); simp only [go_sem, n1, n2, m1, m2, aPd0]) | ((with_reducible refine an ?_ ?_); focus exact Au))
        refine ret_view [true] ?_; simp only [go_sem, n1, n2, m1, m2]
        exact .mkAgg (Vws.cons (.refl _) (Vws.cons (.refl _) (Vws.cons (.refl _) (Vws.cons (.refl _) (Vws.cons (.refl _) (Vws.cons (Vw.ofLs (if_pos rfl) rfl) .nil))))))
end Go.AL
end
section
/- Trees rewritten and counts shifted: what is returned. No condition. -/
namespace Go.AL
open Go Go.RowKit
set_option maxRecDepth 4000
theorem rwF_size (c : List Int) (t : Pd) : szF (rwF c t) ≤ 3 * szF t := by
  induction t using Pd.ind with
  | _ k n p q s l ih =>
  have hl : ∀ l' : List Pd, (∀ x ∈ l', x ∈ l) → szL (l'.map (rwF c)) ≤ 3 * szL l' := by
    intro l'
    induction l' with
    | nil => intro _; simp [szL]
    | cons x r ihr =>
      intro h
      rw [List.map_cons, szL, szL]
      have := ih x (h x List.mem_cons_self)
      have := ihr fun y hy => h y (List.mem_cons_of_mem _ hy)
      omega
  rw [rwF, rwL_map]
  split
  · simp only [szF, szL]; omega
  · have := hl l fun _ h => h
    simp only [szF]; omega
def pd0 : Pd := .mk 0 0 0 0 ByteArray.empty []
def rwRes (t : Pd) (c : List Int) : Pd × Int :=
  if (!formedB t || !c.all inB) = true then (pd0, 1) else if allB (covB c.length) t = false then (pd0, 2) else if formedB (rwF c t) = false then (pd0, 5) else (rwF c t, 0)
theorem vw_pd0 (L : AHeap) : Vw L aPd0 (aPd pd0) := by
  unfold aPd0 pd0
  rw [aPd_mk]
  exact .mkAgg (Vws.cons (.refl _) (Vws.cons (.refl _) (Vws.cons (.refl _) (Vws.cons (.refl _) (Vws.cons (.refl _) (Vws.cons (.nil 6) .nil))))))
theorem prune_Rewrite (t : Pd) (hz : szF t ≤ 300000) (c : List Int) (hc : c.length ≤ 1000000) : PC Go.Proofs.Tryz.prog 16 [aPd t, aInts c] (.tup [aPd (rwRes t c).1, ai (rwRes t c).2]) := by
  have hf := prune_formed t (by omega)
  have hcn := prune_counts c hc
  have hcv := prune_covered c.length t (by omega)
  have hsz := rwF_size c t
  have hrw := prune_rewrite c hc t (by omega)
  have hf2 := prune_formed (rwF c t) (by omega)
  have hsp : rwRes t c = if (!formedB t || !c.all inB) = true then (pd0, 1) else if allB (covB c.length) t = false then (pd0, 2) else if formedB (rwF c t) = false then (pd0, 5) else (rwF c t, 0) := rfl
  generalize rwRes t c = R at *
  generalize rwF c t = u at *
  generalize allB (covB c.length) t = b2 at *
  generalize formedB t = b1 at *
  generalize c.all inB = b3 at *
  generalize formedB u = b4 at *
  obtain ⟨k, n, p, q, s, l⟩ := t
  obtain ⟨k2, n2, p2, q2, s2, l2⟩ := u
  simp only [aPd_mk] at *
  refine PC.enter 32 [.cell 4 28, .tmp 5] [2, 6] Go.Proofs.Tryz.func16 rfl rfl rfl rfl rfl (by simp) (AWp.of ?_); simp only [go_sem]
  intro d4
  repeat (first | ((with_reducible refine AWp.ofC ?_ ?_); (focus exact rfl); simp only [go_sem]) | ((with_reducible refine an ?_ ?_); focus exact Au))
  repeat ((with_reducible refine an ?_ ?_); focus exact As)
  refine (hf).val.use ?_; simp only [go_sem]
  repeat ((with_reducible refine an ?_ ?_); focus exact As)
  refine GCall.use (ab b3) (fun _ => ⟨At, (hcn).val.use ⟨rfl, rfl⟩⟩) ?_; simp only [go_sem]
  repeat (first | ((with_reducible refine AWp.ofC ?_ ?_); (focus exact rfl); simp only [go_sem]) | ((with_reducible refine an ?_ ?_); focus exact Au))
  refine ⟨fun h1 => ?_, fun h1 => ?_⟩
  · have hR : R = (pd0, 1) := by rw [hsp, if_pos]; rcases h1 with h1 | h1 <;> simp [h1]
    rw [hR]
    repeat (first | ((with_reducible refine AWp.ofC ?_ ?_); (focus exact rfl); simp only [go_sem]) | ((with_reducible refine an ?_ ?_); focus exact Au))
    refine ret_view [] ?_; simp only [go_sem]
    exact .mkTup (Vws.cons (vw_pd0 _) (Vws.refl _))
  intro h2
  rw [h1, h2, if_neg (by decide)] at hsp
  repeat ((with_reducible refine an ?_ ?_); focus exact As)
  refine (hcv).val.use ?_; simp only [go_sem]
  repeat (first | ((with_reducible refine AWp.ofC ?_ ?_); (focus exact rfl); simp only [go_sem]) | ((with_reducible refine an ?_ ?_); focus exact Au))
  refine ⟨fun h3 => ?_, fun h3 => ?_⟩
  · have hR : R = (pd0, 2) := by rw [hsp, if_pos h3]
    rw [hR]
    repeat (first | ((with_reducible refine AWp.ofC ?_ ?_); (focus exact rfl); simp only [go_sem]) | ((with_reducible refine an ?_ ?_); focus exact Au))
    refine ret_view [] ?_; simp only [go_sem]
    exact .mkTup (Vws.cons (vw_pd0 _) (Vws.refl _))
  rw [if_neg (by rw [h3]; decide)] at hsp
  have hrw := hrw h3
  repeat (first | ((with_reducible refine AWp.ofC ?_ ?_); (focus exact rfl); simp only [go_sem]) | ((with_reducible refine an ?_ ?_); focus exact Au))
  repeat ((with_reducible refine an ?_ ?_); focus exact As)
  refine (hrw).val.use ?_; simp only [go_sem]
  repeat ((with_reducible refine an ?_ ?_); focus exact As)
  intro d6
  try intro _
  repeat (first | ((with_reducible refine AWp.ofC ?_ ?_); (focus exact rfl); simp only [go_sem]) | ((with_reducible refine an ?_ ?_); focus exact Au))
  repeat ((with_reducible refine an ?_ ?_); focus exact As)
  refine (hf2).val.use ?_; simp only [go_sem]
  repeat (first | ((with_reducible refine AWp.ofC ?_ ?_); (focus exact rfl); simp only [go_sem]) | ((with_reducible refine an ?_ ?_); focus exact Au))
  refine ⟨fun h4 => ?_, fun h4 => ?_⟩
  · have hR : R = (pd0, 5) := by rw [hsp, if_pos h4]
    rw [hR]
    repeat (first | ((with_reducible refine AWp.ofC ?_ ?_); (focus exact rfl); simp only [go_sem]) | ((with_reducible refine an ?_ ?_); focus exact Au))
    refine ret_view [] ?_; simp only [go_sem]
    exact .mkTup (Vws.cons (vw_pd0 _) (Vws.refl _))
  · have hR : R = (.mk k2 n2 p2 q2 s2 l2, 0) := by rw [hsp, if_neg (by rw [h4]; decide)]
    rw [hR]
    repeat (first | ((with_reducible refine AWp.ofC ?_ ?_); (focus exact rfl); simp only [go_sem]) | ((with_reducible refine an ?_ ?_); focus exact Au))
    refine ret_eq ?_; simp only [go_sem]
theorem ref49_Rewrite (t : Pd) (hz : szF t ≤ 300000) (c : List Int) (hc : c.length ≤ 1000000) : PC Go.Proofs.Tryz.prog 17 [aPd t, aInts c] (.tup [aPd (rwRes t c).1, ai (rwRes t c).2]) := by
  have hf := ref28_Formed t (by omega)
  have hcv := ref49_counted c.length t (by omega)
  have hsz := rwF_size c t
  have hrw := ref49_rewritten c hc t (by omega)
  have hf2 := ref28_Formed (rwF c t) (by omega)
  have hsp : rwRes t c = if (!formedB t || !c.all inB) = true then (pd0, 1) else if allB (covB c.length) t = false then (pd0, 2) else if formedB (rwF c t) = false then (pd0, 5) else (rwF c t, 0) := rfl
  generalize rwRes t c = R at *
  generalize rwF c t = u at *
  generalize allB (covB c.length) t = b2 at *
  generalize formedB t = b1 at *
  generalize formedB u = b4 at *
  obtain ⟨k, n, p, q, s, l⟩ := t
  obtain ⟨k2, n2, p2, q2, s2, l2⟩ := u
  simp only [aPd_mk] at *
  refine PC.enter 39 [.cell 4 28, .tmp 5] [2, 7] Go.Proofs.Tryz.func17 rfl rfl rfl rfl rfl (by simp) (AWp.of ?_); simp only [go_sem]
  intro d4
  repeat (first | ((with_reducible refine AWp.ofC ?_ ?_); (focus exact rfl); simp only [go_sem]) | ((with_reducible refine an ?_ ?_); focus exact Au))
  repeat ((with_reducible refine an ?_ ?_); focus exact As)
  refine (hf).val.use ?_; simp only [go_sem]
  repeat (first | ((with_reducible refine AWp.ofC ?_ ?_); (focus exact rfl); simp only [go_sem]) | ((with_reducible refine an ?_ ?_); focus exact Au))
  refine ⟨fun h1 => ?_, fun h1 => ?_⟩
  · have hR : R = (pd0, 1) := by rw [hsp, if_pos]; simp [h1]
    rw [hR]
    repeat (first | ((with_reducible refine AWp.ofC ?_ ?_); (focus exact rfl); simp only [go_sem]) | ((with_reducible refine an ?_ ?_); focus exact Au))
    refine ret_view [] ?_; simp only [go_sem]
    exact .mkTup (Vws.cons (vw_pd0 _) (Vws.refl _))
  rw [h1] at hsp
  repeat (first | ((with_reducible refine AWp.ofC ?_ ?_); (focus exact rfl); simp only [go_sem]) | ((with_reducible refine an ?_ ?_); focus exact Au))
  refine AWp.block (AWp.count 6 c.length [] [1, 2, 4] (fun i vs L => L = [(d4, ABlk.row 28 6 [aPd0] 1)] ∧ ∀ j (hj : j < c.length), j < i → inB c[j] = true) rfl rfl ⟨rfl, by omega⟩ ?_)
  rintro i vs L hi - ⟨rfl, hI⟩
  simp only [go_sem]
  repeat (first | ((with_reducible refine AWp.ofC ?_ ?_); (focus exact rfl); simp only [go_sem]) | ((with_reducible refine an ?_ ?_); focus exact Au))
  refine ⟨fun h4 => ?_, fun h4 => ?_⟩
  · have hil : i < c.length := by omega
    have hgi := getD_map (f := ai) hil
    have hin := ref49_in c[i]
    repeat (first | ((with_reducible refine AWp.ofC ?_ ?_); (focus exact rfl); simp only [go_sem, hgi]) | ((with_reducible refine an ?_ ?_); focus exact Au))
    repeat ((with_reducible refine an ?_ ?_); focus exact As)
    refine (hin).val.use ?_; simp only [go_sem]
    repeat (first | ((with_reducible refine AWp.ofC ?_ ?_); (focus exact rfl); simp only [go_sem]) | ((with_reducible refine an ?_ ?_); focus exact Au))
    refine ⟨fun h5 => ?_, fun h5 => ?_⟩
    · have hR : R = (pd0, 1) := by
        rw [hsp, if_pos]
        simp only [Bool.not_true, Bool.false_or, Bool.not_eq_true', List.all_eq_false]
        exact ⟨_, List.getElem_mem hil, by rw [h5]; decide⟩
      rw [hR]
      repeat (first | ((with_reducible refine AWp.ofC ?_ ?_); (focus exact rfl); simp only [go_sem]) | ((with_reducible refine an ?_ ?_); focus exact Au))
      refine ret_view [] ?_; simp only [go_sem]
      exact .mkTup (Vws.cons (vw_pd0 _) (Vws.refl _))
    · repeat (first | ((with_reducible refine AWp.ofC ?_ ?_); (focus exact rfl); simp only [go_sem]) | ((with_reducible refine an ?_ ?_); focus exact Au))
      refine ⟨_, List.Sublist.refl _, rfl, fun j hj hji => ?_⟩
      by_cases e : j = i
      · subst e; exact h5
      · exact hI j hj (by omega)
  have h2 : c.all inB = true := by rw [List.all_eq_true]; intro x hx; obtain ⟨j, hj, rfl⟩ := List.getElem_of_mem hx; exact hI j hj (by omega)
  rw [h2, if_neg (by decide)] at hsp
  repeat (first | ((with_reducible refine AWp.ofC ?_ ?_); (focus exact rfl); simp only [go_sem]) | ((with_reducible refine an ?_ ?_); focus exact Au))
  repeat ((with_reducible refine an ?_ ?_); focus exact As)
  refine (hcv).val.use ?_; simp only [go_sem]
  repeat (first | ((with_reducible refine AWp.ofC ?_ ?_); (focus exact rfl); simp only [go_sem]) | ((with_reducible refine an ?_ ?_); focus exact Au))
  refine ⟨fun h3 => ?_, fun h3 => ?_⟩
  · have hR : R = (pd0, 2) := by rw [hsp, if_pos h3]
    rw [hR]
    repeat (first | ((with_reducible refine AWp.ofC ?_ ?_); (focus exact rfl); simp only [go_sem]) | ((with_reducible refine an ?_ ?_); focus exact Au))
    refine ret_view [] ?_; simp only [go_sem]
    exact .mkTup (Vws.cons (vw_pd0 _) (Vws.refl _))
  rw [if_neg (by rw [h3]; decide)] at hsp
  have hrw := hrw h3
  repeat (first | ((with_reducible refine AWp.ofC ?_ ?_); (focus exact rfl); simp only [go_sem]) | ((with_reducible refine an ?_ ?_); focus exact Au))
  repeat ((with_reducible refine an ?_ ?_); focus exact As)
  refine (hrw).val.use ?_; simp only [go_sem]
  repeat ((with_reducible refine an ?_ ?_); focus exact As)
  intro d6
  try intro _
  repeat (first | ((with_reducible refine AWp.ofC ?_ ?_); (focus exact rfl); simp only [go_sem]) | ((with_reducible refine an ?_ ?_); focus exact Au))
  repeat ((with_reducible refine an ?_ ?_); focus exact As)
  refine (hf2).val.use ?_; simp only [go_sem]
  repeat (first | ((with_reducible refine AWp.ofC ?_ ?_); (focus exact rfl); simp only [go_sem]) | ((with_reducible refine an ?_ ?_); focus exact Au))
  refine ⟨fun h4 => ?_, fun h4 => ?_⟩
  · have hR : R = (pd0, 5) := by rw [hsp, if_pos h4]
    rw [hR]
    repeat (first | ((with_reducible refine AWp.ofC ?_ ?_); (focus exact rfl); simp only [go_sem]) | ((with_reducible refine an ?_ ?_); focus exact Au))
    refine ret_view [] ?_; simp only [go_sem]
    exact .mkTup (Vws.cons (vw_pd0 _) (Vws.refl _))
  · have hR : R = (.mk k2 n2 p2 q2 s2 l2, 0) := by rw [hsp, if_neg (by rw [h4]; decide)]
    rw [hR]
    repeat (first | ((with_reducible refine AWp.ofC ?_ ?_); (focus exact rfl); simp only [go_sem]) | ((with_reducible refine an ?_ ?_); focus exact Au))
    refine ret_eq ?_; simp only [go_sem]
    rfl
/-! ### Shifted counts -/
def shS (c d : List Int) : List Int := List.zipWith (· + ·) c d
def shiftR (c d : List Int) : List Int × Int :=
  if (!decide (c.length = d.length) || decide (8 < c.length)) = true then ([], 1) else if (!c.all inB || !d.all inB) = true then ([], 2) else if (shS c d).all inB = false then ([], 9) else (shS c d, 0)
theorem shS_take {c d : List Int} {i : Nat} (hc : i < c.length) (hd : i < d.length) : (shS c d).take (i + 1) = (shS c d).take i ++ [c[i] + d[i]] := by
  have : i < (shS c d).length := by unfold shS; rw [List.length_zipWith]; omega
  rw [List.take_succ_eq_append_getElem this]
  congr 2
  simp [shS]
theorem shS_length (c d : List Int) (h : c.length = d.length) : (shS c d).length = c.length := by unfold shS; rw [List.length_zipWith]; omega
theorem inB_get {c : List Int} (h : c.all inB = true) {i : Nat} (hi : i < c.length) : 0 ≤ c[i] ∧ c[i] ≤ 64 := by
  have := List.all_eq_true.1 h _ (List.getElem_mem hi)
  simp only [inB, Bool.and_eq_true, decide_eq_true_iff] at this; exact this
theorem prune_Shift (c d : List Int) (hc : c.length ≤ 1000000) (hd : d.length ≤ 1000000) : PC Go.Proofs.Tryz.prog 14 [aInts c, aInts d] (.tup [aInts (shiftR c d).1, ai (shiftR c d).2]) := by
  have h1 := prune_counts c hc
  have h2 := prune_counts d hd
  have hlen := shS_length c d
  have h3 := prune_counts (shS c d)
  have hsp : shiftR c d = if (!decide (c.length = d.length) || decide (8 < c.length)) = true then ([], 1) else if (!c.all inB || !d.all inB) = true then ([], 2) else if (shS c d).all inB = false then ([], 9) else (shS c d, 0) := rfl
  have hbc : c.all inB = true → ∀ {i : Nat} (hi : i < c.length), 0 ≤ c[i] ∧ c[i] ≤ 64 := fun h _ hi => inB_get h hi
  have hbd : d.all inB = true → ∀ {i : Nat} (hi : i < d.length), 0 ≤ d[i] ∧ d[i] ≤ 64 := fun h _ hi => inB_get h hi
  generalize shiftR c d = R at *
  generalize c.all inB = b1 at *
  generalize d.all inB = b2 at *
  refine PC.enter 50 [.tmp 4, .tmp 5] [43] Go.Proofs.Tryz.func14 rfl rfl rfl rfl rfl (by simp) (AWp.of ?_); simp only [go_sem]
  repeat (first | ((with_reducible refine AWp.ofC ?_ ?_); (focus exact rfl); simp only [go_sem]) | ((with_reducible refine an ?_ ?_); focus exact Au))
  repeat (first | ((with_reducible refine AWp.ofC ?_ ?_); (focus exact rfl); simp only [go_sem]) | ((with_reducible refine an ?_ ?_); focus exact Au))
  refine ⟨fun k1 => ?_, fun k1 => ?_⟩
  · have hR : R = ([], 1) := by rw [hsp, if_pos]; rcases k1 with k1 | k1 <;> simp; exact .inl (by omega); exact .inr (by omega)
    rw [hR]
    repeat (first | ((with_reducible refine AWp.ofC ?_ ?_); (focus exact rfl); simp only [go_sem]) | ((with_reducible refine an ?_ ?_); focus exact Au))
    refine ret_view [] ?_; simp only [go_sem]
    exact .mkTup (Vws.cons (.nil 1) (Vws.refl _))
  intro k2
  have hl : c.length = d.length := by omega
  have hlen := hlen hl
  have h3 := h3 (by omega)
  rw [if_neg (by simp; omega)] at hsp
  repeat ((with_reducible refine an ?_ ?_); focus exact As)
  refine (h1).val.use ?_; simp only [go_sem]
  repeat ((with_reducible refine an ?_ ?_); focus exact As)
  refine GCall.use (ab b2) (fun _ => ⟨At, (h2).val.use ⟨rfl, rfl⟩⟩) ?_; simp only [go_sem]
  repeat (first | ((with_reducible refine AWp.ofC ?_ ?_); (focus exact rfl); simp only [go_sem]) | ((with_reducible refine an ?_ ?_); focus exact Au))
  refine ⟨fun k3 => ?_, fun k3 => ?_⟩
  · have hR : R = ([], 2) := by rw [hsp, if_pos]; rcases k3 with k3 | k3 <;> simp [k3]
    rw [hR]
    repeat (first | ((with_reducible refine AWp.ofC ?_ ?_); (focus exact rfl); simp only [go_sem]) | ((with_reducible refine an ?_ ?_); focus exact Au))
    refine ret_view [] ?_; simp only [go_sem]
    exact .mkTup (Vws.cons (.nil 1) (Vws.refl _))
  intro k4
  rw [k3, k4, if_neg (by decide)] at hsp
  have hbc := @hbc k3
  have hbd := @hbd k4
  repeat (first | ((with_reducible refine AWp.ofC ?_ ?_); (focus exact rfl); simp only [go_sem]) | ((with_reducible refine an ?_ ?_); focus exact Au))
  refine AWp.range' c.length [6] [0, 1, 29] (fun i vs L => ∃ v Ln, vs = [v] ∧ L = Ln ∧ AppSt 3 1 (((shS c d).take i).map ai) v Ln) (by omega) rfl rfl rfl ⟨anil, [], rfl, rfl, .nil⟩ ?_ ?_
  · rintro i vs L' hi - ⟨v, Ln, rfl, rfl, hA⟩
    have hid : i < d.length := by omega
    have hb1 := hbc hi
    have hb2 := hbd hid
    have hgc := getD_map (f := ai) hi
    have hgd := getD_map (f := ai) hid
    rw [shS_take hi hid, List.map_append]
    have hyl : (((shS c d).take i).map ai).length ≤ 1000000 := by simp; omega
    generalize ((shS c d).take i).map ai = ys at *
    rcases hA.inv with ⟨e1, rfl, rfl⟩ | ⟨b, cap, rfl, rfl⟩
    · simp only [go_sem]
      repeat ((with_reducible refine an ?_ ?_); focus exact As)
      refine AWp.of ?_; simp only [go_sem]
      refine AWp.mix mixed [0, 1, 2, 3, 4, 5, 6, 7, 8, 9] (.step 10 (.step 11 (.step 12 .done .done) .done) .done) (by kernel_rfl) ?_; simp only [go_sem, hgc, hgd]
      repeat ((with_reducible refine an ?_ ?_); focus exact As)
      intro b' cap' _ 
      repeat ((with_reducible refine an ?_ ?_); focus exact As)
      refine ⟨_, List.Sublist.refl _, _, [(b', .row 3 1 [ai (c[i] + d[i])] cap')], rfl, rfl, ?_⟩
      rw [e1]
      exact .row _ _ _
    · simp only [go_sem]
      repeat ((with_reducible refine an ?_ ?_); focus exact As)
      refine AWp.of ?_; simp only [go_sem]
      refine AWp.mix mixed [0, 1, 2, 3, 4, 5, 6, 7, 8, 9] (.step 10 (.step 11 (.step 12 .done .done) .done) .done) (by kernel_rfl) ?_; simp only [go_sem, hgc, hgd]
      repeat ((with_reducible refine an ?_ ?_); focus exact As)
      intro b' cap' _
      repeat ((with_reducible refine an ?_ ?_); focus exact As)
      refine ⟨_, List.Sublist.refl _, _, [(b', .row 3 1 (ys ++ [ai (c[i] + d[i])]) cap')], rfl, rfl, ?_⟩
      have := AppSt.row (t := 3) (k := 1) b' (ys ++ [ai (c[i] + d[i])]) cap'
      simpa using this
  · rintro vs LL - ⟨v, Ln, rfl, rfl, hA⟩
    rw [List.take_of_length_le (by omega)] at hA
    simp only [go_sem]
    have hvw := hA.vw []
    rw [List.append_nil] at hvw
    have hfo := hA.fo
    refine AWp.viewP (Lf := LL) (Lk := []) (L' := []) (by simp) (LVw.refl _) [(6, .sl 1 ((shS c d).map ai))] (by intro p hp; simp at hp; subst hp; exact hvw) ?_
    generalize (shS c d).all inB = b3 at *
    generalize shS c d = S at *
    simp only [go_sem]
    repeat (first | ((with_reducible refine AWp.ofC ?_ ?_); (focus exact rfl); simp only [go_sem]) | ((with_reducible refine an ?_ ?_); focus exact Au))
    repeat ((with_reducible refine an ?_ ?_); focus exact As)
    refine (h3).val.use ?_; simp only [go_sem]
    repeat (first | ((with_reducible refine AWp.ofC ?_ ?_); (focus exact rfl); simp only [go_sem]) | ((with_reducible refine an ?_ ?_); focus exact Au))
    refine ⟨fun k5 => ?_, fun k5 => ?_⟩
    · have hR : R = ([], 9) := by rw [hsp, if_pos k5]
      rw [hR]
      repeat (first | ((with_reducible refine AWp.ofC ?_ ?_); (focus exact rfl); simp only [go_sem]) | ((with_reducible refine an ?_ ?_); focus exact Au))
      refine ret_view [] ?_; simp only [go_sem]
      exact .mkTup (Vws.cons (.nil 1) (Vws.refl _))
    · have hR : R = (S, 0) := by rw [hsp, if_neg (by rw [k5]; decide)]
      rw [hR]
      repeat (first | ((with_reducible refine AWp.ofC ?_ ?_); (focus exact rfl); simp only [go_sem]) | ((with_reducible refine an ?_ ?_); focus exact Au))
      refine ret_eq ?_; simp only [go_sem]
def bigB (c d : List Int) (i : Nat) : Bool := ((shS c d).take i).any fun x => decide (64 < x)
theorem bigB_step {c d : List Int} {i : Nat} (hc : i < c.length) (hd : i < d.length) : bigB c d (i + 1) = (bigB c d i || decide (64 < c[i] + d[i])) := by
  unfold bigB; rw [shS_take hc hd, List.any_append]; simp
theorem bigB_all {c d : List Int} (hl : c.length = d.length) (hc : c.all inB = true) (hd : d.all inB = true) : (shS c d).all inB = !bigB c d c.length := by
  unfold bigB
  rw [List.take_of_length_le (by rw [shS_length c d hl]; omega)]
  rw [Bool.eq_iff_iff, Bool.not_eq_true', List.all_eq_true, List.any_eq_false]
  have hx : ∀ x ∈ shS c d, 0 ≤ x := by
    intro x hx
    obtain ⟨i, hi, rfl⟩ := List.getElem_of_mem hx
    rw [shS_length c d hl] at hi
    have h1 := inB_get hc hi
    have h2 := inB_get hd (show i < d.length by omega)
    simp only [shS, List.getElem_zipWith]
    omega
  refine ⟨fun h x hm => ?_, fun h x hm => ?_⟩
  · have := h x hm; simp only [inB, Bool.and_eq_true, decide_eq_true_iff] at this; simp; omega
  · have := h x hm; have := hx x hm; simp only [inB, Bool.and_eq_true, decide_eq_true_iff]; simp at *; omega
theorem ref49_Shift (c d : List Int) (hc : c.length ≤ 1000000) (hd : d.length ≤ 1000000) : PC Go.Proofs.Tryz.prog 15 [aInts c, aInts d] (.tup [aInts (shiftR c d).1, ai (shiftR c d).2]) := by
  have hsp : shiftR c d = if (!decide (c.length = d.length) || decide (8 < c.length)) = true then ([], 1) else if (!c.all inB || !d.all inB) = true then ([], 2) else if (shS c d).all inB = false then ([], 9) else (shS c d, 0) := rfl
  generalize shiftR c d = R at *
  refine PC.enter 66 [.tmp 4, .tmp 5] [62] Go.Proofs.Tryz.func15 rfl rfl rfl rfl rfl (by simp) (AWp.of ?_); simp only [go_sem]
  repeat (first | ((with_reducible refine AWp.ofC ?_ ?_); (focus exact rfl); simp only [go_sem]) | ((with_reducible refine an ?_ ?_); focus exact Au))
  repeat (first | ((with_reducible refine AWp.ofC ?_ ?_); (focus exact rfl); simp only [go_sem]) | ((with_reducible refine an ?_ ?_); focus exact Au))
  refine ⟨fun k1 => ?_, fun k1 => ?_⟩
  · have hR : R = ([], 1) := by rw [hsp, if_pos]; rcases k1 with k1 | k1 <;> simp; exact .inl (by omega); exact .inr (by omega)
    rw [hR]
    repeat (first | ((with_reducible refine AWp.ofC ?_ ?_); (focus exact rfl); simp only [go_sem]) | ((with_reducible refine an ?_ ?_); focus exact Au))
    refine ret_view [] ?_; simp only [go_sem]
    exact .mkTup (Vws.cons (.nil 1) (Vws.refl _))
  intro k2
  have hl : c.length = d.length := by omega
  rw [if_neg (by simp; omega)] at hsp
  repeat (first | ((with_reducible refine AWp.ofC ?_ ?_); (focus exact rfl); simp only [go_sem]) | ((with_reducible refine an ?_ ?_); focus exact Au))
  refine AWp.block (AWp.count 8 c.length [6, 7] [0, 1] (fun i vs L => ∃ v, vs = [v, ab (bigB c d i)] ∧ AppSt 3 1 (((shS c d).take i).map ai) v L ∧ ∀ j (hj : j < c.length) (hd : j < d.length), j < i → inB c[j] = true ∧ inB d[j] = true) rfl rfl ⟨anil, rfl, .nil, by omega⟩ ?_)
  rintro i vs L hi - ⟨v, rfl, hA, hI⟩
  simp only [go_sem]
  repeat (first | ((with_reducible refine AWp.ofC ?_ ?_); (focus exact rfl); simp only [go_sem]) | ((with_reducible refine an ?_ ?_); focus exact Au))
  refine ⟨fun h4 => ?_, fun h4 => ?_⟩
  · have hil : i < c.length := by omega
    have hid : i < d.length := by omega
    have hgc := getD_map (f := ai) hil
    have hgd := getD_map (f := ai) hid
    have hic := ref49_in c[i]
    have hidd := ref49_in d[i]
    repeat (first | ((with_reducible refine AWp.ofC ?_ ?_); (focus exact rfl); simp only [go_sem, hgc]) | ((with_reducible refine an ?_ ?_); focus exact Au))
    repeat ((with_reducible refine an ?_ ?_); focus exact As)
    refine (hic).val.use ?_; simp only [go_sem, hgd]
    repeat ((with_reducible refine an ?_ ?_); focus exact As)
    refine GCall.use (ab (inB d[i])) (fun _ => ⟨At, (hidd).val.use ⟨rfl, rfl⟩⟩) ?_; simp only [go_sem]
    repeat (first | ((with_reducible refine AWp.ofC ?_ ?_); (focus exact rfl); simp only [go_sem]) | ((with_reducible refine an ?_ ?_); focus exact Au))
    refine ⟨fun k3 => ?_, fun k3 => ?_⟩
    · have hR : R = ([], 2) := by
        rw [hsp, if_pos]
        simp only [Bool.or_eq_true, Bool.not_eq_true', List.all_eq_false]
        rcases k3 with k3 | k3
        · exact .inl ⟨_, List.getElem_mem hil, by rw [k3]; decide⟩
        · exact .inr ⟨_, List.getElem_mem hid, by rw [k3]; decide⟩
      rw [hR]
      repeat (first | ((with_reducible refine AWp.ofC ?_ ?_); (focus exact rfl); simp only [go_sem]) | ((with_reducible refine an ?_ ?_); focus exact Au))
      refine ret_view [] ?_; simp only [go_sem]
      exact .mkTup (Vws.cons (.nil 1) (Vws.refl _))
    intro k4
    have hb1 : 0 ≤ c[i] ∧ c[i] ≤ 64 := by simpa only [inB, Bool.and_eq_true, decide_eq_true_iff] using k3
    have hb2 : 0 ≤ d[i] ∧ d[i] ≤ 64 := by simpa only [inB, Bool.and_eq_true, decide_eq_true_iff] using k4
    have hst := bigB_step hil hid
    have htk := shS_take hil hid
    have hyl : (((shS c d).take i).map ai).length ≤ 1000000 := by simp; omega
    have hma : ((shS c d).take (i + 1)).map ai = ((shS c d).take i).map ai ++ [ai (c[i] + d[i])] := by rw [htk, List.map_append]; rfl
    have hI' : ∀ j (hj : j < c.length) (hd : j < d.length), j < i + 1 → inB c[j] = true ∧ inB d[j] = true := by
      intro j hj hd hji
      by_cases e : j = i
      · subst e; exact ⟨k3, k4⟩
      · exact hI j hj hd (by omega)
    generalize ((shS c d).take i).map ai = ys at *
    generalize bigB c d i = g at *
    have hfo := hA.fo
    repeat (first | ((with_reducible refine AWp.ofC ?_ ?_); (focus exact rfl); simp only [go_sem]) | ((with_reducible refine an ?_ ?_); focus exact Au))
    refine AWp.seq ?_
    refine AWp.mix mixed [0, 1, 2, 3, 4, 5, 6, 7, 8, 9, 10, 11] (.step 12 (.step 13 .done .done) .done) (by kernel_rfl) ?_; simp only [go_sem, hgc, hgd]
    repeat ((with_reducible refine an ?_ ?_); focus exact As)
    rcases hA.inv with ⟨e1, rfl, rfl⟩ | ⟨b, cap, rfl, rfl⟩
    · refine AWp.mix mixed [0, 1, 2, 3, 4, 5, 6, 7, 8, 9] (.step 10 (.step 11 (.step 12 .done .done) .done) .done) (by kernel_rfl) ?_; simp only [go_sem, hgc, hgd]
      repeat ((with_reducible refine an ?_ ?_); focus exact As)
      intro b' cap' _
      repeat (first | ((with_reducible refine AWp.ofC ?_ ?_); (focus exact rfl); simp only [go_sem]) | ((with_reducible refine an ?_ ?_); focus exact Au))
      refine ⟨_, List.Sublist.refl _, .ls b' 1 0 1 cap', ?_, ?_, hI'⟩
      · rw [hst]
      · rw [hma, e1]; exact .row _ [_] _
    · refine AWp.mix mixed [0, 1, 2, 3, 4, 5, 6, 7, 8, 9] (.step 10 (.step 11 (.step 12 .done .done) .done) .done) (by kernel_rfl) ?_; simp only [go_sem, hgc, hgd]
      repeat ((with_reducible refine an ?_ ?_); focus exact As)
      intro b' cap' _
      repeat (first | ((with_reducible refine AWp.ofC ?_ ?_); (focus exact rfl); simp only [go_sem]) | ((with_reducible refine an ?_ ?_); focus exact Au))
      refine ⟨_, List.Sublist.refl _, .ls b' 1 0 (ys.length + 1) cap', ?_, ?_, hI'⟩
      · rw [hst]
      · rw [hma]
        have := AppSt.row (t := 3) (k := 1) b' (ys ++ [ai (c[i] + d[i])]) cap'
        simpa using this
  · have hil : i = c.length := by omega
    have h1 : c.all inB = true := by rw [List.all_eq_true]; intro x hx; obtain ⟨j, hj, rfl⟩ := List.getElem_of_mem hx; exact (hI j hj (by omega) (by omega)).1
    have h2 : d.all inB = true := by rw [List.all_eq_true]; intro x hx; obtain ⟨j, hj, rfl⟩ := List.getElem_of_mem hx; exact (hI j (by omega) hj (by omega)).2
    have hbg := bigB_all hl h1 h2
    rw [h1, h2, if_neg (by decide), hbg] at hsp
    rw [hil, List.take_of_length_le (by rw [shS_length c d hl]; omega)] at hA
    rw [hil]
    generalize bigB c d c.length = g at *
    generalize shS c d = S at *
    have hfo := hA.fo
    have hvw := hA.vw []
    rw [List.append_nil] at hvw
    refine AWp.viewP (Lf := L) (Lk := []) (L' := []) (by simp) (LVw.refl _) [(6, .sl 1 (S.map ai))] (by intro p hp; simp at hp; subst hp; exact hvw) ?_
    simp only [go_sem]
    repeat (first | ((with_reducible refine AWp.ofC ?_ ?_); (focus exact rfl); simp only [go_sem]) | ((with_reducible refine an ?_ ?_); focus exact Au))
    refine ⟨fun k5 => ?_, fun k5 => ?_⟩
    · have hR : R = ([], 9) := by rw [hsp, if_pos]; rw [k5]; rfl
      rw [hR]
      repeat (first | ((with_reducible refine AWp.ofC ?_ ?_); (focus exact rfl); simp only [go_sem]) | ((with_reducible refine an ?_ ?_); focus exact Au))
      refine ret_view [] ?_; simp only [go_sem]
      exact .mkTup (Vws.cons (.nil 1) (Vws.refl _))
    · have hR : R = (S, 0) := by rw [hsp, if_neg]; rw [k5]; decide
      rw [hR]
      repeat (first | ((with_reducible refine AWp.ofC ?_ ?_); (focus exact rfl); simp only [go_sem]) | ((with_reducible refine an ?_ ?_); focus exact Au))
      refine ret_eq ?_; simp only [go_sem]
end Go.AL
end
section
/- Equal trees; trees that are too great. No condition. -/
namespace Go.AL
open Go Go.RowKit
set_option maxRecDepth 4000
theorem ref28_Same (t : Pd) : szF t ≤ 1000000 → PC Go.Proofs.Tryz.prog 19 [aPd t, aPd t] (ab true) := by
  induction t using Pd.ind with
  | _ k n p q s l ih =>
  intro hz
  have hsz : szF (.mk k n p q s l) = szL l + 1 := by rw [szF]
  have hll := szL_len l
  refine PC.enter 67 [.tmp 4] [2, 3] Go.Proofs.Tryz.func19 rfl rfl rfl rfl rfl (by simp) (AWp.of ?_); simp only [go_sem]
  repeat (first | ((with_reducible refine AWp.ofC ?_ ?_); (focus exact rfl); simp only [go_sem]) | ((with_reducible refine an ?_ ?_); focus exact Au))
  refine AWp.block (AWp.count 5 l.length [] [2, 3] (fun i vs L => L = []) rfl rfl rfl ?_)
  rintro i vs L hi - rfl
  simp only [go_sem]
  repeat (first | ((with_reducible refine AWp.ofC ?_ ?_); (focus exact rfl); simp only [go_sem]) | ((with_reducible refine an ?_ ?_); focus exact Au))
  refine ⟨fun h4 => ?_, fun h4 => ?_⟩
  · have hil : i < l.length := by omega
    have hgi := getD_map (f := aPd) hil
    have hzi := szL_mem (List.getElem_mem hil)
    have hch := ih l[i] (List.getElem_mem hil) (by omega)
    generalize l[i] = x at *
    obtain ⟨k2, n2, p2, q2, s2, l2⟩ := x
    simp only [aPd_mk] at hgi hch
    refine AWp.seq (AWp.block (AWp.seq ?_))
    refine AWp.mix mixed [0, 1, 2, 3, 4, 5, 6, 7, 8, 9, 10, 11] .done (by kernel_rfl) ?_; simp only [go_sem, hgi]
    repeat ((with_reducible refine an ?_ ?_); focus exact As)
    refine GCall.use (ab true) (fun _ => ⟨At, (hch).val.use ⟨rfl, rfl⟩⟩) ?_; simp only [go_sem]
    repeat ((with_reducible refine an ?_ ?_); focus exact As)
    repeat (first | ((with_reducible refine AWp.ofC ?_ ?_); (focus exact rfl); simp only [go_sem]) | ((with_reducible refine an ?_ ?_); focus exact Au))
    exact ⟨_, List.Sublist.refl _, rfl⟩
  · repeat (first | ((with_reducible refine AWp.ofC ?_ ?_); (focus exact rfl); simp only [go_sem]) | ((with_reducible refine an ?_ ?_); focus exact Au))
    refine ret_eq ?_; simp only [go_sem]
/-! ### Trees that are too great -/
mutual
def hugeF : Pd → Int → Int → Int
  | .mk _ _ _ _ _ l, d, c => hugeL l (d + 1) (if 40 < d then 1000 else c + 1)
def hugeL : List Pd → Int → Int → Int
  | [], _, c => c
  | x :: r, d, c => if c ≤ 300 then hugeL r d (hugeF x d c) else c
end
theorem hugeL_nil (d c : Int) : hugeL [] d c = c := by rw [hugeL]
theorem hugeL_cons (x : Pd) (r : List Pd) (d c : Int) : hugeL (x :: r) d c = if c ≤ 300 then hugeL r d (hugeF x d c) else c := by rw [hugeL]
theorem hugeL_stop {l : List Pd} {d c : Int} (h : ¬ c ≤ 300) : hugeL l d c = c := by
  cases l with
  | nil => rw [hugeL]
  | cons x r => rw [hugeL, if_neg h]
theorem hugeF_spec (t : Pd) : ∀ d c : Int, 0 ≤ c → c ≤ 300 → c + 1 ≤ hugeF t d c ∧ hugeF t d c ≤ 1000 ∧ (hugeF t d c ≤ 300 → (c + szF t : Int) ≤ hugeF t d c) := by
  induction t using Pd.ind with
  | _ k n p q s l ih =>
  intro d c h0 h1
  rw [hugeF, szF]
  have hl : ∀ l' : List Pd, (∀ x ∈ l', x ∈ l) → ∀ c : Int, 0 ≤ c → c ≤ 1000 → c ≤ hugeL l' (d + 1) c ∧ hugeL l' (d + 1) c ≤ 1000 ∧ (hugeL l' (d + 1) c ≤ 300 → (c + szL l' : Int) ≤ hugeL l' (d + 1) c) := by
    intro l'
    induction l' with
    | nil => intro _ c h0 h1; rw [hugeL, szL]; exact ⟨by omega, h1, fun _ => by omega⟩
    | cons x r ihr =>
      intro hm c h0 h1
      rw [hugeL, szL]
      by_cases hc : c ≤ 300
      · rw [if_pos hc]
        obtain ⟨a1, a2, a3⟩ := ih x (hm x List.mem_cons_self) (d + 1) c h0 hc
        obtain ⟨b1, b2, b3⟩ := ihr (fun y hy => hm y (List.mem_cons_of_mem _ hy)) (hugeF x (d + 1) c) (by omega) a2
        exact ⟨by omega, b2, fun h => by have := b3 h; have := a3 (by omega); omega⟩
      · rw [if_neg hc]
        exact ⟨by omega, h1, fun h => absurd h hc⟩
  split
  · obtain ⟨b1, b2, b3⟩ := hl l (fun _ h => h) 1000 (by decide) (by decide)
    exact ⟨by omega, b2, fun h => by omega⟩
  · obtain ⟨b1, b2, b3⟩ := hl l (fun _ h => h) (c + 1) (by omega) (by omega)
    exact ⟨by omega, b2, fun h => by have := b3 h; omega⟩
theorem hugeL_take {l : List Pd} {d c : Int} : ∀ {i : Nat} (hi : i < l.length), hugeL (l.take (i + 1)) d c = if hugeL (l.take i) d c ≤ 300 then hugeF l[i] d (hugeL (l.take i) d c) else hugeL (l.take i) d c := by
  induction l generalizing c with
  | nil => intro i hi; simp at hi
  | cons x r ih =>
    intro i hi
    cases i with
    | zero =>
      simp only [List.take_succ_cons, List.take_zero, List.getElem_cons_zero, hugeL_cons, hugeL_nil]
    | succ i =>
      simp only [List.take_succ_cons, List.getElem_cons_succ]
      simp only [hugeL_cons]
      by_cases h : c ≤ 300
      · rw [if_pos h, if_pos h]; exact ih (by simpa using hi)
      · rw [if_neg h, if_neg h, if_neg h]
theorem hugeL_full {l : List Pd} {d c : Int} {i : Nat} (h : ¬ hugeL (l.take i) d c ≤ 300) : hugeL l d c = hugeL (l.take i) d c := by
  induction l generalizing c i with
  | nil => rw [List.take_nil]
  | cons x r ih =>
    cases i with
    | zero =>
      have e0 : hugeL [] d c = c := by rw [hugeL]
      rw [List.take_zero, e0] at h
      rw [List.take_zero, e0, hugeL, if_neg h]
    | succ i =>
      rw [List.take_succ_cons, hugeL] at *
      rw [hugeL]
      by_cases hc : c ≤ 300
      · rw [if_pos hc] at h ⊢; rw [if_pos hc]; exact ih h
      · rw [if_neg hc, if_neg hc]
def aHuge (bn bw : Nat) : AV := .clo 39 [.lp bn 1 0 0, .lp bw 1 0 0]
def Lh (bn bw : Nat) (c : Int) : AHeap := [(bw, .row 81 1 [aHuge bn bw] 1), (bn, .row 3 1 [ai c] 1)]
theorem law49_huge1 (bn bw : Nat) (hb : ¬ bn = bw) (t : Pd) : ∀ d c : Int, 0 ≤ d → d ≤ 41 → 0 ≤ c → c ≤ 300 →
    MCalls Go.Proofs.Tryz.prog 39 [aPd t, ai d, .lp bn 1 0 0, .lp bw 1 0 0] (Lh bn bw c) fun r L => r = .tup [] ∧ L = Lh bn bw (hugeF t d c) := by
  induction t using Pd.ind with
  | _ k n p q s l ih =>
  intro d c d0 d1 c0 c1
  have hb' : ¬ bw = bn := fun e => hb e.symm
  have hsp : hugeF (.mk k n p q s l) d c = hugeL l (d + 1) (if 40 < d then 1000 else c + 1) := by rw [hugeF]
  unfold Lh aHuge at *
  refine MCalls.enter' 31 [] [4] Go.Proofs.Tryz.func39 rfl rfl rfl rfl rfl (by simp) (AWp.of ?_); simp only [go_sem]
  generalize hugeF (.mk k n p q s l) d c = z at *
  repeat ((with_reducible refine an ?_ ?_); focus exact As)
  refine AWp.of ?_; simp only [go_sem, hb]
  repeat ((with_reducible refine an ?_ ?_); focus exact As)
  refine AWp.cut [1, 2, 3, 4] (fun vs L => vs = [ai d, .lp bn 1 0 0, .lp bw 1 0 0, .rp 6 [aPd (.mk k n p q s l)] 0 0] ∧ L = [(bw, ABlk.row 81 1 [.clo 39 [.lp bn 1 0 0, .lp bw 1 0 0]] 1), (bn, ABlk.row 3 1 [ai (if 40 < d then 1000 else c + 1)] 1)]) ?_ ?_
  · repeat (first | ((with_reducible refine AWp.ofC ?_ ?_); (focus exact rfl); simp only [go_sem, hb]) | ((with_reducible refine an ?_ ?_); focus exact Au))
    refine ⟨fun h1 => ?_, fun h1 => ?_⟩
    · repeat (first | ((with_reducible refine AWp.ofC ?_ ?_); (focus exact rfl); simp only [go_sem]) | ((with_reducible refine an ?_ ?_); focus exact Au))
      exact ⟨_, List.Sublist.refl _, by rw [if_pos h1]⟩
    · exact ⟨_, List.Sublist.refl _, by rw [if_neg h1]⟩
  rintro vs L - ⟨rfl, rfl⟩
  have hd40 : (if 40 < d then 1000 else c + 1) ≤ 300 → d ≤ 40 := by split <;> omega
  have hC : 0 ≤ (if 40 < d then 1000 else c + 1) ∧ (if 40 < d then 1000 else c + 1) ≤ 1000 := by split <;> omega
  generalize (if 40 < d then 1000 else c + 1) = C at *
  simp only [go_sem]
  repeat (first | ((with_reducible refine AWp.ofC ?_ ?_); (focus exact rfl); simp only [go_sem]) | ((with_reducible refine an ?_ ?_); focus exact Au))
  refine AWp.block (AWp.count 6 l.length [] [1, 2, 3, 4] (fun i vs L => (i : Int) ≤ hugeL (l.take i) (d + 1) C ∧ C ≤ hugeL (l.take i) (d + 1) C ∧ hugeL (l.take i) (d + 1) C ≤ 1000 ∧ L = [(bw, ABlk.row 81 1 [.clo 39 [.lp bn 1 0 0, .lp bw 1 0 0]] 1), (bn, ABlk.row 3 1 [ai (hugeL (l.take i) (d + 1) C)] 1)]) rfl rfl (by rw [List.take_zero, hugeL_nil]; exact ⟨by omega, by omega, by omega, rfl⟩) ?_)
  rintro i vs L hi - ⟨hi1, hi2, hi3, rfl⟩
  have hfull := fun h => hugeL_full (l := l) (d := d + 1) (c := C) (i := i) h
  have htk := fun (h : i < l.length) => hugeL_take (l := l) (d := d + 1) (c := C) h
  have hend : i = l.length → hugeL (l.take i) (d + 1) C = hugeL l (d + 1) C := fun h => by rw [h, List.take_length]
  generalize hugeL (l.take i) (d + 1) C = ci at *
  simp only [go_sem]
  repeat (first | ((with_reducible refine AWp.ofC ?_ ?_); (focus exact rfl); simp only [go_sem, hb]) | ((with_reducible refine an ?_ ?_); focus exact Au))
  refine ⟨fun h4 h5 => ?_, fun h4 => ?_⟩
  · have hil : i < l.length := by omega
    have hgi := getD_map (f := aPd) hil
    have hch := ih l[i] (List.getElem_mem hil) (d + 1) ci (by omega) (by omega) (by omega) h5
    have htk := htk hil
    rw [if_pos h5] at htk
    obtain ⟨g1, g2, _⟩ := hugeF_spec l[i] (d + 1) ci (by omega) h5
    generalize hugeF l[i] (d + 1) ci = cn at *
    generalize l[i] = x at *
    obtain ⟨k2, n2, p2, q2, s2, l2⟩ := x
    simp only [aPd_mk] at hgi hch
    refine AWp.seq (AWp.block ?_)
    refine AWp.mix mixed [1, 2, 3, 4, 5, 6, 7] (.step 0 (.step 8 .done .done) .done) (by kernel_rfl) ?_; simp only [go_sem, hgi, hb']
    repeat ((with_reducible refine an ?_ ?_); focus exact As)
    refine (MCalls.clo hch).mono ?_
    rintro r L ⟨rfl, rfl⟩
    simp only [go_sem]
    repeat (first | ((with_reducible refine AWp.ofC ?_ ?_); (focus exact rfl); simp only [go_sem]) | ((with_reducible refine an ?_ ?_); focus exact Au))
    exact ⟨_, List.Sublist.refl _, by rw [htk]; omega, by rw [htk]; omega, by rw [htk]; exact g2, by rw [htk]⟩
  · repeat (first | ((with_reducible refine AWp.ofC ?_ ?_); (focus exact rfl); simp only [go_sem]) | ((with_reducible refine an ?_ ?_); focus exact Au))
    have hz : z = ci := by
      rw [hsp]
      by_cases e : ci ≤ 300
      · have : ¬ (i : Int) < l.length := fun h => h4 h e
        rw [hend (by omega)]
      · exact hfull e
    refine ret_own ?_
    simp only [go_sem]
    rw [hz]
theorem law49_huge (t : Pd) : PC Go.Proofs.Tryz.prog 9 [aPd t] (ab (decide (300 < hugeF t 0 0))) := by
  have hw := fun bn bw hb => law49_huge1 bn bw hb t 0 0 (by decide) (by decide) (by decide) (by decide)
  unfold Lh aHuge at hw
  generalize hugeF t 0 0 = w at *
  obtain ⟨k, n, p, q, s, l⟩ := t
  simp only [aPd_mk] at *
  refine PC.enter 11 [.tmp 2] [1] Go.Proofs.Tryz.func9 rfl rfl rfl rfl rfl (by simp) (AWp.of ?_); simp only [go_sem]
  repeat (first | ((with_reducible refine AWp.ofC ?_ ?_); (focus exact rfl); simp only [go_sem]) | ((with_reducible refine an ?_ ?_); focus exact Au))
  intro bn
  repeat (first | ((with_reducible refine AWp.ofC ?_ ?_); (focus exact rfl); simp only [go_sem]) | ((with_reducible refine an ?_ ?_); focus exact Au))
  intro bw hlt
  have hb : ¬ bw = bn := by omega
  have hb' : ¬ bn = bw := by omega
  repeat (first | ((with_reducible refine AWp.ofC ?_ ?_); (focus exact rfl); simp only [go_sem, hb]) | ((with_reducible refine an ?_ ?_); focus exact Au))
  repeat ((with_reducible refine an ?_ ?_); focus exact As)
  refine (MCalls.clo (hw bn bw hb')).mono ?_
  rintro r L ⟨rfl, rfl⟩
  simp only [go_sem]
  repeat (first | ((with_reducible refine AWp.ofC ?_ ?_); (focus exact rfl); simp only [go_sem, hb']) | ((with_reducible refine an ?_ ?_); focus exact Au))
  refine ret_eq ?_; simp only [go_sem]
theorem not_huge {t : Pd} (h : ¬ 300 < hugeF t 0 0) : szF t ≤ 300 := by
  have := (hugeF_spec t 0 0 (by decide) (by decide)).2.2 (by omega)
  omega
end Go.AL
end
