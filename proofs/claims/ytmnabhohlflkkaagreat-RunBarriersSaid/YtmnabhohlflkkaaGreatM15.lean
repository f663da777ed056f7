/- Texts of this claim's proof: WU13, WRt, WRt7, WQe, WXg. No condition. -/
import Derived.Test.YtmnabhohlflkkaaGreatM14
import Derived.Test.YtmnabhohlflkkaaGreatM7
import Derived.Test.YtmnabhohlflkkaaGreatM4
import Derived.Test.YtmnabhohlflkkaaGreatM10
section
/- The law RunAvoids: the walk. No condition. -/
namespace Go.AL
open Go Go.RowKit
set_option maxRecDepth 4000
theorem law24_Avoids1 (ps : List Pr) (hs : Sm ps) (hv : validF ps = true) (c : List Int) : PC Go.Proofs.Tryz.prog 19 [aInts c, .rp 1 [aTr ps] 0 0] (ab (!isF ps c)) := by
  have h1 := ref23_Is ps hs (valid_len hv).1 c
  refine PC.enter 8 [.tmp 3] [] Go.Proofs.Tryz.func19 rfl rfl rfl rfl rfl (by simp) (AWp.of ?_); simp only [go_sem]
  repeat (first | ((with_reducible refine AWp.ofC ?_ ?_); (focus exact rfl); simp only [go_sem]) | ((with_reducible refine an ?_ ?_); focus exact Au))
  repeat ((with_reducible refine an ?_ ?_); focus exact As)
  refine (h1).val.use ?_; simp only [go_sem]
  repeat (first | ((with_reducible refine AWp.ofC ?_ ?_); (focus exact rfl); simp only [go_sem]) | ((with_reducible refine an ?_ ?_); focus exact Au))
  refine ret_eq ?_; simp only [go_sem]
set_option maxHeartbeats 4000000 in
theorem law24_RunAvoids (ps : List Pr) (l : List (List Int)) (hev : ∀ p ∈ ps, p.evs.length ≤ 9223372036854775807) : PC Go.Proofs.Tryz.prog 4 [aTr ps, aRows l] (ab true) := by
  have haw := law24_awake
  have hsm := law24_small ps hev 30
  have hsh := law24_short l
  have haR : ∀ x : List (List Int), aRows x = .sl 1 (x.map aInts) := fun _ => rfl
  cases hsf : smF ps 30 with
  | false =>
    rw [hsf] at hsm
    generalize shortF l = sh at *
    rw [haR] at *
    refine PC.enter 125 [.tmp 4] [2] Go.Proofs.Tryz.func4 rfl rfl rfl rfl rfl (by simp) (AWp.of ?_); simp only [go_sem]
    repeat (first | ((with_reducible refine AWp.ofC ?_ ?_); (focus exact rfl); simp only [go_sem]) | ((with_reducible refine an ?_ ?_); focus exact Au))
    repeat ((with_reducible refine an ?_ ?_); focus exact As)
    refine (haw).val.use ?_; simp only [go_sem]
    repeat (first | ((with_reducible refine AWp.ofC ?_ ?_); (focus exact rfl); simp only [go_sem]) | ((with_reducible refine an ?_ ?_); focus exact Au))
    repeat ((with_reducible refine an ?_ ?_); focus exact As)
    refine (hsm).val.use ?_; simp only [go_sem]
    repeat ((with_reducible refine an ?_ ?_); focus exact As)
    refine GCall.use (ab sh) (fun _ => ⟨At, (hsh).val.use ⟨rfl, rfl⟩⟩) ?_; simp only [go_sem]
    repeat (first | ((with_reducible refine AWp.ofC ?_ ?_); (focus exact rfl); simp only [go_sem]) | ((with_reducible refine an ?_ ?_); focus exact Au))
    refine ret_eq ?_; simp only [go_sem]
  | true =>
    rw [hsf] at hsm
    have hvd := vd_of hsf
    by_cases hout : shortF l = false ∧ ((l.length : Int) ≤ 5000 ∨ (5005 : Int) < (l.length : Int))
    · rw [hout.1] at hsh
      have hor : (decide ((l.length : Int) ≤ 5000) || decide ((5005 : Int) < (l.length : Int))) = true := by rw [← Bool.decide_or]; exact decide_eq_true hout.2
      rw [haR] at *
      refine PC.enter 125 [.tmp 4] [2] Go.Proofs.Tryz.func4 rfl rfl rfl rfl rfl (by simp) (AWp.of ?_); simp only [go_sem]
      repeat (first | ((with_reducible refine AWp.ofC ?_ ?_); (focus exact rfl); simp only [go_sem]) | ((with_reducible refine an ?_ ?_); focus exact Au))
      repeat ((with_reducible refine an ?_ ?_); focus exact As)
      refine (haw).val.use ?_; simp only [go_sem]
      repeat (first | ((with_reducible refine AWp.ofC ?_ ?_); (focus exact rfl); simp only [go_sem]) | ((with_reducible refine an ?_ ?_); focus exact Au))
      repeat ((with_reducible refine an ?_ ?_); focus exact As)
      refine (hsm).val.use ?_; simp only [go_sem]
      repeat ((with_reducible refine an ?_ ?_); focus exact As)
      refine GCall.use (ab false) (fun _ => ⟨At, (hsh).val.use ⟨rfl, rfl⟩⟩) ?_; simp only [go_sem, hor]
      rcases hout.2 with h | h
      · repeat (first | ((with_reducible refine AWp.ofC ?_ ?_); (focus exact rfl); simp only [go_sem, h]) | ((with_reducible refine an ?_ ?_); focus exact Au))
        refine ret_eq ?_; simp only [go_sem]
      · have h' : ¬ (l.length : Int) ≤ 5000 := by omega
        repeat (first | ((with_reducible refine AWp.ofC ?_ ?_); (focus exact rfl); simp only [go_sem, h, h']) | ((with_reducible refine an ?_ ?_); focus exact Au))
        refine ret_eq ?_; simp only [go_sem]
    · have hin : shortF l = true ∨ ¬ (l.length : Int) ≤ 5000 ∧ ¬ (5005 : Int) < (l.length : Int) := by
        cases h : shortF l with
        | true => exact .inl rfl
        | false => exact .inr ⟨fun h2 => hout ⟨h, .inl h2⟩, fun h2 => hout ⟨h, .inr h2⟩⟩
      have hgo : (!shortF l && (decide ((l.length : Int) ≤ 5000) || decide ((5005 : Int) < (l.length : Int)))) = false := by
        rcases hin with h | ⟨h1, h2⟩
        · rw [h]; rfl
        · rw [decide_eq_false h1, decide_eq_false h2, Bool.or_false, Bool.and_false]
      have z0 : ((0 : Nat) : Int) = 0 := rfl
      cases hv : validF ps with
      | false =>
        have hva := hvd.val
        have hrv := hvd.rval
        rw [hv] at hva hrv
        have h1 := run_Avoid_bad hva l
        have h2 := run_Blocked_bad hva l
        generalize shortF l = sh at *
        rw [haR] at hsh h1 h2 ⊢
        rw [haR] at h1
        refine PC.enter 125 [.tmp 4] [2] Go.Proofs.Tryz.func4 rfl rfl rfl rfl rfl (by simp) (AWp.of ?_); simp only [go_sem]
        repeat (first | ((with_reducible refine AWp.ofC ?_ ?_); (focus exact rfl); simp only [go_sem]) | ((with_reducible refine an ?_ ?_); focus exact Au))
        repeat ((with_reducible refine an ?_ ?_); focus exact As)
        refine (haw).val.use ?_; simp only [go_sem]
        repeat (first | ((with_reducible refine AWp.ofC ?_ ?_); (focus exact rfl); simp only [go_sem]) | ((with_reducible refine an ?_ ?_); focus exact Au))
        repeat ((with_reducible refine an ?_ ?_); focus exact As)
        refine (hsm).val.use ?_; simp only [go_sem]
        repeat ((with_reducible refine an ?_ ?_); focus exact As)
        refine GCall.use (ab sh) (fun _ => ⟨At, (hsh).val.use ⟨rfl, rfl⟩⟩) ?_; simp only [go_sem, hgo]
        refine ⟨fun h1 => ⟨h1, fun h2 => ⟨h1, h2⟩⟩, ?_⟩
        repeat (first | ((with_reducible refine AWp.ofC ?_ ?_); (focus exact rfl); simp only [go_sem]) | ((with_reducible refine an ?_ ?_); focus exact Au))
        repeat ((with_reducible refine an ?_ ?_); focus exact As)
        refine (h1).val.use ?_; simp only [go_sem]
        repeat (first | ((with_reducible refine AWp.ofC ?_ ?_); (focus exact rfl); simp only [go_sem]) | ((with_reducible refine an ?_ ?_); focus exact Au))
        repeat ((with_reducible refine an ?_ ?_); focus exact As)
        refine (h2).val.use ?_; simp only [go_sem]
        repeat (first | ((with_reducible refine AWp.ofC ?_ ?_); (focus exact rfl); simp only [go_sem]) | ((with_reducible refine an ?_ ?_); focus exact Au))
        repeat ((with_reducible refine an ?_ ?_); focus exact As)
        refine (hrv).val.use ?_; simp only [go_sem]
        repeat (first | ((with_reducible refine AWp.ofC ?_ ?_); (focus exact rfl); simp only [go_sem, Int.reduceEq, z0]) | ((with_reducible refine an ?_ ?_); focus exact Au))
        refine ret_eq ?_; simp only [go_sem]
      | true =>
        have hs := hvd.sm hv
        have hrv := hvd.rval
        rw [hv] at hrv
        have h1 := run_Avoid ps hs l
        have h2 := run_Blocked ps hs l
        have hE : avE ps l = if 5000 < l.length then 5 else if (l.any fun c => !isF ps c) = true then 18 else lstE ps := by unfold avE; rw [hv, if_pos rfl]
        have hdE : avdE ps l = if avE ps l = 0 then (if opnV ps (badB l) (zeroC ps) = true then 0 else 7) else avE ps l := rfl
        have hdF : avdF ps l = if avdE ps l = 0 then wlkF ps (opnV ps (badB l)) else [] := rfl
        have hbB : blkB ps l = (decide (avE ps l = 0) && !opnV ps (badB l) (zeroC ps)) := rfl
        by_cases h5 : 5000 < l.length
        · have h5i : (5000 : Int) < (l.length : Int) := by omega
          rw [if_pos h5] at hE
          rw [hE] at hdE hbB h2
          rw [if_neg (by decide)] at hdE
          rw [hdE] at hdF h1
          rw [if_neg (by decide)] at hdF
          rw [hdF] at h1
          rw [hbB] at h2
          change PC _ _ _ (.tup [ab false, ai 5]) at h2
          generalize shortF l = sh at *
          rw [haR] at hsh h1 h2 ⊢
          rw [haR] at h1
          refine PC.enter 125 [.tmp 4] [2] Go.Proofs.Tryz.func4 rfl rfl rfl rfl rfl (by simp) (AWp.of ?_); simp only [go_sem]
          repeat (first | ((with_reducible refine AWp.ofC ?_ ?_); (focus exact rfl); simp only [go_sem]) | ((with_reducible refine an ?_ ?_); focus exact Au))
          repeat ((with_reducible refine an ?_ ?_); focus exact As)
          refine (haw).val.use ?_; simp only [go_sem]
          repeat (first | ((with_reducible refine AWp.ofC ?_ ?_); (focus exact rfl); simp only [go_sem]) | ((with_reducible refine an ?_ ?_); focus exact Au))
          repeat ((with_reducible refine an ?_ ?_); focus exact As)
          refine (hsm).val.use ?_; simp only [go_sem]
          repeat ((with_reducible refine an ?_ ?_); focus exact As)
          refine GCall.use (ab sh) (fun _ => ⟨At, (hsh).val.use ⟨rfl, rfl⟩⟩) ?_; simp only [go_sem, hgo]
          refine ⟨fun h1 => ⟨h1, fun h2 => ⟨h1, h2⟩⟩, ?_⟩
          repeat (first | ((with_reducible refine AWp.ofC ?_ ?_); (focus exact rfl); simp only [go_sem]) | ((with_reducible refine an ?_ ?_); focus exact Au))
          repeat ((with_reducible refine an ?_ ?_); focus exact As)
          refine (h1).val.use ?_; simp only [go_sem]
          repeat (first | ((with_reducible refine AWp.ofC ?_ ?_); (focus exact rfl); simp only [go_sem]) | ((with_reducible refine an ?_ ?_); focus exact Au))
          repeat ((with_reducible refine an ?_ ?_); focus exact As)
          refine (h2).val.use ?_; simp only [go_sem]
          repeat (first | ((with_reducible refine AWp.ofC ?_ ?_); (focus exact rfl); simp only [go_sem]) | ((with_reducible refine an ?_ ?_); focus exact Au))
          repeat ((with_reducible refine an ?_ ?_); focus exact As)
          refine (hrv).val.use ?_; simp only [go_sem]
          repeat (first | ((with_reducible refine AWp.ofC ?_ ?_); (focus exact rfl); simp only [go_sem, h5i, Int.reduceEq, z0]) | ((with_reducible refine an ?_ ?_); focus exact Au))
          refine ret_eq ?_; simp only [go_sem]
        · have h5i : ¬ (5000 : Int) < (l.length : Int) := by omega
          rw [if_neg h5] at hE
          have hsht : shortF l = true := by
            rcases hin with h | ⟨h1, h2⟩
            · exact h
            · omega
          obtain ⟨hr1, hr2⟩ := shortF_spec hsht
          have hcf := rows_containsFunc l (by omega) (.clo 19 [.rp 1 [aTr ps] 0 0]) rfl (fun c => !isF ps c) fun c _ => (law24_Avoids1 ps hs hv c).clo
          cases hb : (l.any fun c => !isF ps c) with
          | true =>
            rw [hb] at hcf hE
            rw [if_pos rfl] at hE
            rw [hE] at hdE hbB h2
            rw [if_neg (by decide)] at hdE
            rw [hdE] at hdF h1
            rw [if_neg (by decide)] at hdF
            rw [hdF] at h1
            rw [hbB] at h2
            change PC _ _ _ (.tup [ab false, ai 18]) at h2
            generalize shortF l = sh at *
            rw [haR] at hsh h1 h2 hcf ⊢
            rw [haR] at h1
            refine PC.enter 125 [.tmp 4] [2] Go.Proofs.Tryz.func4 rfl rfl rfl rfl rfl (by simp) (AWp.of ?_); simp only [go_sem]
            repeat (first | ((with_reducible refine AWp.ofC ?_ ?_); (focus exact rfl); simp only [go_sem]) | ((with_reducible refine an ?_ ?_); focus exact Au))
            repeat ((with_reducible refine an ?_ ?_); focus exact As)
            refine (haw).val.use ?_; simp only [go_sem]
            repeat (first | ((with_reducible refine AWp.ofC ?_ ?_); (focus exact rfl); simp only [go_sem]) | ((with_reducible refine an ?_ ?_); focus exact Au))
            repeat ((with_reducible refine an ?_ ?_); focus exact As)
            refine (hsm).val.use ?_; simp only [go_sem]
            repeat ((with_reducible refine an ?_ ?_); focus exact As)
            refine GCall.use (ab sh) (fun _ => ⟨At, (hsh).val.use ⟨rfl, rfl⟩⟩) ?_; simp only [go_sem, hgo]
            refine ⟨fun h1 => ⟨h1, fun h2 => ⟨h1, h2⟩⟩, ?_⟩
            repeat (first | ((with_reducible refine AWp.ofC ?_ ?_); (focus exact rfl); simp only [go_sem]) | ((with_reducible refine an ?_ ?_); focus exact Au))
            repeat ((with_reducible refine an ?_ ?_); focus exact As)
            refine (h1).val.use ?_; simp only [go_sem]
            repeat (first | ((with_reducible refine AWp.ofC ?_ ?_); (focus exact rfl); simp only [go_sem]) | ((with_reducible refine an ?_ ?_); focus exact Au))
            repeat ((with_reducible refine an ?_ ?_); focus exact As)
            refine (h2).val.use ?_; simp only [go_sem]
            repeat (first | ((with_reducible refine AWp.ofC ?_ ?_); (focus exact rfl); simp only [go_sem]) | ((with_reducible refine an ?_ ?_); focus exact Au))
            repeat ((with_reducible refine an ?_ ?_); focus exact As)
            refine (hrv).val.use ?_; simp only [go_sem]
            repeat (first | ((with_reducible refine AWp.ofC ?_ ?_); (focus exact rfl); simp only [go_sem, h5i]) | ((with_reducible refine an ?_ ?_); focus exact Au))
            repeat ((with_reducible refine an ?_ ?_); focus exact As)
            refine (hcf).val.use ?_; simp only [go_sem]
            repeat (first | ((with_reducible refine AWp.ofC ?_ ?_); (focus exact rfl); simp only [go_sem, Int.reduceEq, z0]) | ((with_reducible refine an ?_ ?_); focus exact Au))
            refine ret_eq ?_; simp only [go_sem]
          | false =>
            rw [hb] at hcf hE
            rw [if_neg (by decide)] at hE
            have h3 := ref23_List ps hs hv
            have hlE : lstE ps = if 5000 < (cutsF ps).length then 16 else 0 := by unfold lstE; rw [hv, if_pos rfl]; split <;> split <;> first | rfl | omega
            rw [hlE] at hE
            by_cases h50 : 5000 < (cutsF ps).length
            · rw [if_pos h50] at hE h3
              rw [hE] at hdE hbB h2
              rw [if_neg (by decide)] at hdE
              rw [hdE] at hdF h1
              rw [if_neg (by decide)] at hdF
              rw [hdF] at h1
              rw [hbB] at h2
              change PC _ _ _ (.tup [ab false, ai 16]) at h2
              generalize shortF l = sh at *
              rw [haR] at hsh h1 h2 hcf ⊢
              rw [haR] at h1
              refine PC.enter 125 [.tmp 4] [2] Go.Proofs.Tryz.func4 rfl rfl rfl rfl rfl (by simp) (AWp.of ?_); simp only [go_sem]
              repeat (first | ((with_reducible refine AWp.ofC ?_ ?_); (focus exact rfl); simp only [go_sem]) | ((with_reducible refine an ?_ ?_); focus exact Au))
              repeat ((with_reducible refine an ?_ ?_); focus exact As)
              refine (haw).val.use ?_; simp only [go_sem]
              repeat (first | ((with_reducible refine AWp.ofC ?_ ?_); (focus exact rfl); simp only [go_sem]) | ((with_reducible refine an ?_ ?_); focus exact Au))
              repeat ((with_reducible refine an ?_ ?_); focus exact As)
              refine (hsm).val.use ?_; simp only [go_sem]
              repeat ((with_reducible refine an ?_ ?_); focus exact As)
              refine GCall.use (ab sh) (fun _ => ⟨At, (hsh).val.use ⟨rfl, rfl⟩⟩) ?_; simp only [go_sem, hgo]
              refine ⟨fun h1 => ⟨h1, fun h2 => ⟨h1, h2⟩⟩, ?_⟩
              repeat (first | ((with_reducible refine AWp.ofC ?_ ?_); (focus exact rfl); simp only [go_sem]) | ((with_reducible refine an ?_ ?_); focus exact Au))
              repeat ((with_reducible refine an ?_ ?_); focus exact As)
              refine (h1).val.use ?_; simp only [go_sem]
              repeat (first | ((with_reducible refine AWp.ofC ?_ ?_); (focus exact rfl); simp only [go_sem]) | ((with_reducible refine an ?_ ?_); focus exact Au))
              repeat ((with_reducible refine an ?_ ?_); focus exact As)
              refine (h2).val.use ?_; simp only [go_sem]
              repeat (first | ((with_reducible refine AWp.ofC ?_ ?_); (focus exact rfl); simp only [go_sem]) | ((with_reducible refine an ?_ ?_); focus exact Au))
              repeat ((with_reducible refine an ?_ ?_); focus exact As)
              refine (hrv).val.use ?_; simp only [go_sem]
              repeat (first | ((with_reducible refine AWp.ofC ?_ ?_); (focus exact rfl); simp only [go_sem, h5i]) | ((with_reducible refine an ?_ ?_); focus exact Au))
              repeat ((with_reducible refine an ?_ ?_); focus exact As)
              refine (hcf).val.use ?_; simp only [go_sem]
              repeat (first | ((with_reducible refine AWp.ofC ?_ ?_); (focus exact rfl); simp only [go_sem]) | ((with_reducible refine an ?_ ?_); focus exact Au))
              repeat ((with_reducible refine an ?_ ?_); focus exact As)
              refine (h3).val.use ?_; simp only [go_sem]
              repeat (first | ((with_reducible refine AWp.ofC ?_ ?_); (focus exact rfl); simp only [go_sem, Int.reduceEq, z0]) | ((with_reducible refine an ?_ ?_); focus exact Au))
              refine ret_eq ?_; simp only [go_sem]
            · rw [if_neg h50] at hE h3
              rw [hE] at hdE hbB h2
              rw [if_pos rfl] at hdE
              rw [decide_eq_true rfl, Bool.true_and] at hbB
              rw [hbB] at h2
              by_cases h10 : 1000 < (cutsF ps).length
              · have h10i : (1000 : Int) < ((cutsF ps).length : Int) := by omega
                generalize shortF l = sh at *
                generalize avdF ps l = aF at *
                generalize avdE ps l = aE at *
                generalize cutsF ps = m at *
                rw [haR] at hsh h1 h2 hcf h3 ⊢
                rw [haR] at h1
                refine PC.enter 125 [.tmp 4] [2] Go.Proofs.Tryz.func4 rfl rfl rfl rfl rfl (by simp) (AWp.of ?_); simp only [go_sem]
                repeat (first | ((with_reducible refine AWp.ofC ?_ ?_); (focus exact rfl); simp only [go_sem]) | ((with_reducible refine an ?_ ?_); focus exact Au))
                repeat ((with_reducible refine an ?_ ?_); focus exact As)
                refine (haw).val.use ?_; simp only [go_sem]
                repeat (first | ((with_reducible refine AWp.ofC ?_ ?_); (focus exact rfl); simp only [go_sem]) | ((with_reducible refine an ?_ ?_); focus exact Au))
                repeat ((with_reducible refine an ?_ ?_); focus exact As)
                refine (hsm).val.use ?_; simp only [go_sem]
                repeat ((with_reducible refine an ?_ ?_); focus exact As)
                refine GCall.use (ab sh) (fun _ => ⟨At, (hsh).val.use ⟨rfl, rfl⟩⟩) ?_; simp only [go_sem, hgo]
                refine ⟨fun h1 => ⟨h1, fun h2 => ⟨h1, h2⟩⟩, ?_⟩
                repeat (first | ((with_reducible refine AWp.ofC ?_ ?_); (focus exact rfl); simp only [go_sem]) | ((with_reducible refine an ?_ ?_); focus exact Au))
                repeat ((with_reducible refine an ?_ ?_); focus exact As)
                refine (h1).val.use ?_; simp only [go_sem]
                repeat (first | ((with_reducible refine AWp.ofC ?_ ?_); (focus exact rfl); simp only [go_sem]) | ((with_reducible refine an ?_ ?_); focus exact Au))
                repeat ((with_reducible refine an ?_ ?_); focus exact As)
                refine (h2).val.use ?_; simp only [go_sem]
                repeat (first | ((with_reducible refine AWp.ofC ?_ ?_); (focus exact rfl); simp only [go_sem]) | ((with_reducible refine an ?_ ?_); focus exact Au))
                repeat ((with_reducible refine an ?_ ?_); focus exact As)
                refine (hrv).val.use ?_; simp only [go_sem]
                repeat (first | ((with_reducible refine AWp.ofC ?_ ?_); (focus exact rfl); simp only [go_sem, h5i]) | ((with_reducible refine an ?_ ?_); focus exact Au))
                repeat ((with_reducible refine an ?_ ?_); focus exact As)
                refine (hcf).val.use ?_; simp only [go_sem]
                repeat (first | ((with_reducible refine AWp.ofC ?_ ?_); (focus exact rfl); simp only [go_sem]) | ((with_reducible refine an ?_ ?_); focus exact Au))
                repeat ((with_reducible refine an ?_ ?_); focus exact As)
                refine (h3).val.use ?_; simp only [go_sem]
                repeat (first | ((with_reducible refine AWp.ofC ?_ ?_); (focus exact rfl); simp only [go_sem, h10i]) | ((with_reducible refine an ?_ ?_); focus exact Au))
                refine ret_eq ?_; simp only [go_sem]
              · have h10i : ¬ (1000 : Int) < ((cutsF ps).length : Int) := by omega
                have h4 := ref24_Avoid ps hs hv (by omega) l (by omega) (fun x hx => by have := hr2 x hx; omega)
                have hlen : (wlkF ps (opnV ps (badB l))).length ≤ 1000000 ∧ ∀ x ∈ wlkF ps (opnV ps (badB l)), x.length ≤ 1000000 := by
                  unfold wlkF
                  cases hw : wlkR ps (opnV ps (badB l)) (off ps ps.length) (zeroC ps) with
                  | none => exact ⟨by simp, fun x hx => by cases hx⟩
                  | some R =>
                    obtain ⟨hch, hRl⟩ := wlk_chn (zeroC_is ps) hw
                    have ho := valid_off hv
                    have h8 := (valid_len hv).2
                    refine ⟨by rw [List.length_cons]; omega, fun x hx => ?_⟩
                    rcases List.mem_cons.1 hx with rfl | hx
                    · simp [zeroC]; omega
                    · obtain ⟨j, hj, rfl⟩ := List.getElem_of_mem hx
                      have := (isF_iff.1 (chn_iff.1 hch j hj).1).1
                      omega
                have h6 := ref24_Same (wlkF ps (opnV ps (badB l))) (wlkF ps (opnV ps (badB l))) hlen.1 hlen.2
                rw [decide_eq_true rfl] at h6
                have hav : avR ps l = if opnV ps (badB l) (zeroC ps) = true then wlkF ps (opnV ps (badB l)) else [] := rfl
                generalize wlkF ps (opnV ps (badB l)) = W at *
                generalize shortF l = sh at *
                generalize cutsF ps = m at *
                cases hop : opnV ps (badB l) (zeroC ps) with
                | true =>
                  rw [hop] at hdE hav h2 h4
                  rw [if_pos rfl] at hdE hav
                  rw [hdE] at hdF h1
                  rw [if_pos rfl] at hdF
                  rw [hdF] at h1
                  rw [hav] at h4
                  rw [Bool.not_true] at h2
                  simp only [haR] at hsh h1 h2 hcf h3 h4 h6 ⊢
                  refine PC.enter 125 [.tmp 4] [2] Go.Proofs.Tryz.func4 rfl rfl rfl rfl rfl (by simp) (AWp.of ?_); simp only [go_sem]
                  repeat (first | ((with_reducible refine AWp.ofC ?_ ?_); (focus exact rfl); simp only [go_sem]) | ((with_reducible refine an ?_ ?_); focus exact Au))
                  repeat ((with_reducible refine an ?_ ?_); focus exact As)
                  refine (haw).val.use ?_; simp only [go_sem]
                  repeat (first | ((with_reducible refine AWp.ofC ?_ ?_); (focus exact rfl); simp only [go_sem]) | ((with_reducible refine an ?_ ?_); focus exact Au))
                  repeat ((with_reducible refine an ?_ ?_); focus exact As)
                  refine (hsm).val.use ?_; simp only [go_sem]
                  repeat ((with_reducible refine an ?_ ?_); focus exact As)
                  refine GCall.use (ab sh) (fun _ => ⟨At, (hsh).val.use ⟨rfl, rfl⟩⟩) ?_; simp only [go_sem, hgo]
                  refine ⟨fun h1 => ⟨h1, fun h2 => ⟨h1, h2⟩⟩, ?_⟩
                  repeat (first | ((with_reducible refine AWp.ofC ?_ ?_); (focus exact rfl); simp only [go_sem]) | ((with_reducible refine an ?_ ?_); focus exact Au))
                  repeat ((with_reducible refine an ?_ ?_); focus exact As)
                  refine (h1).val.use ?_; simp only [go_sem]
                  repeat (first | ((with_reducible refine AWp.ofC ?_ ?_); (focus exact rfl); simp only [go_sem]) | ((with_reducible refine an ?_ ?_); focus exact Au))
                  repeat ((with_reducible refine an ?_ ?_); focus exact As)
                  refine (h2).val.use ?_; simp only [go_sem]
                  repeat (first | ((with_reducible refine AWp.ofC ?_ ?_); (focus exact rfl); simp only [go_sem]) | ((with_reducible refine an ?_ ?_); focus exact Au))
                  repeat ((with_reducible refine an ?_ ?_); focus exact As)
                  refine (hrv).val.use ?_; simp only [go_sem]
                  repeat (first | ((with_reducible refine AWp.ofC ?_ ?_); (focus exact rfl); simp only [go_sem, h5i]) | ((with_reducible refine an ?_ ?_); focus exact Au))
                  repeat ((with_reducible refine an ?_ ?_); focus exact As)
                  refine (hcf).val.use ?_; simp only [go_sem]
                  repeat (first | ((with_reducible refine AWp.ofC ?_ ?_); (focus exact rfl); simp only [go_sem]) | ((with_reducible refine an ?_ ?_); focus exact Au))
                  repeat ((with_reducible refine an ?_ ?_); focus exact As)
                  refine (h3).val.use ?_; simp only [go_sem]
                  repeat (first | ((with_reducible refine AWp.ofC ?_ ?_); (focus exact rfl); simp only [go_sem, h10i]) | ((with_reducible refine an ?_ ?_); focus exact Au))
                  repeat ((with_reducible refine an ?_ ?_); focus exact As)
                  refine (h4).val.use ?_; simp only [go_sem]
                  repeat (first | ((with_reducible refine AWp.ofC ?_ ?_); (focus exact rfl); simp only [go_sem, Int.reduceEq]) | ((with_reducible refine an ?_ ?_); focus exact Au))
                  repeat ((with_reducible refine an ?_ ?_); focus exact As)
                  refine GCall.use (ab true) (fun _ => ⟨At, (h6).val.use ⟨rfl, rfl⟩⟩) ?_; simp only [go_sem]
                  repeat (first | ((with_reducible refine AWp.ofC ?_ ?_); (focus exact rfl); simp only [go_sem]) | ((with_reducible refine an ?_ ?_); focus exact Au))
                  refine ret_eq ?_; simp only [go_sem]
                | false =>
                  rw [hop] at hdE hav h2 h4
                  rw [if_neg (by decide)] at hdE hav
                  rw [hdE] at hdF h1
                  rw [if_neg (by decide)] at hdF
                  rw [hdF] at h1
                  rw [hav] at h4
                  rw [Bool.not_false] at h2
                  simp only [haR] at hsh h1 h2 hcf h3 h4 ⊢
                  refine PC.enter 125 [.tmp 4] [2] Go.Proofs.Tryz.func4 rfl rfl rfl rfl rfl (by simp) (AWp.of ?_); simp only [go_sem]
                  repeat (first | ((with_reducible refine AWp.ofC ?_ ?_); (focus exact rfl); simp only [go_sem]) | ((with_reducible refine an ?_ ?_); focus exact Au))
                  repeat ((with_reducible refine an ?_ ?_); focus exact As)
                  refine (haw).val.use ?_; simp only [go_sem]
                  repeat (first | ((with_reducible refine AWp.ofC ?_ ?_); (focus exact rfl); simp only [go_sem]) | ((with_reducible refine an ?_ ?_); focus exact Au))
                  repeat ((with_reducible refine an ?_ ?_); focus exact As)
                  refine (hsm).val.use ?_; simp only [go_sem]
                  repeat ((with_reducible refine an ?_ ?_); focus exact As)
                  refine GCall.use (ab sh) (fun _ => ⟨At, (hsh).val.use ⟨rfl, rfl⟩⟩) ?_; simp only [go_sem, hgo]
                  refine ⟨fun h1 => ⟨h1, fun h2 => ⟨h1, h2⟩⟩, ?_⟩
                  repeat (first | ((with_reducible refine AWp.ofC ?_ ?_); (focus exact rfl); simp only [go_sem]) | ((with_reducible refine an ?_ ?_); focus exact Au))
                  repeat ((with_reducible refine an ?_ ?_); focus exact As)
                  refine (h1).val.use ?_; simp only [go_sem]
                  repeat (first | ((with_reducible refine AWp.ofC ?_ ?_); (focus exact rfl); simp only [go_sem]) | ((with_reducible refine an ?_ ?_); focus exact Au))
                  repeat ((with_reducible refine an ?_ ?_); focus exact As)
                  refine (h2).val.use ?_; simp only [go_sem]
                  repeat (first | ((with_reducible refine AWp.ofC ?_ ?_); (focus exact rfl); simp only [go_sem]) | ((with_reducible refine an ?_ ?_); focus exact Au))
                  repeat ((with_reducible refine an ?_ ?_); focus exact As)
                  refine (hrv).val.use ?_; simp only [go_sem]
                  repeat (first | ((with_reducible refine AWp.ofC ?_ ?_); (focus exact rfl); simp only [go_sem, h5i]) | ((with_reducible refine an ?_ ?_); focus exact Au))
                  repeat ((with_reducible refine an ?_ ?_); focus exact As)
                  refine (hcf).val.use ?_; simp only [go_sem]
                  repeat (first | ((with_reducible refine AWp.ofC ?_ ?_); (focus exact rfl); simp only [go_sem]) | ((with_reducible refine an ?_ ?_); focus exact Au))
                  repeat ((with_reducible refine an ?_ ?_); focus exact As)
                  refine (h3).val.use ?_; simp only [go_sem]
                  repeat (first | ((with_reducible refine AWp.ofC ?_ ?_); (focus exact rfl); simp only [go_sem, Int.reduceEq, z0, h10i]) | ((with_reducible refine an ?_ ?_); focus exact Au))
                  repeat ((with_reducible refine an ?_ ?_); focus exact As)
                  refine (h4).val.use ?_; simp only [go_sem]
                  repeat (first | ((with_reducible refine AWp.ofC ?_ ?_); (focus exact rfl); simp only [go_sem, z0]) | ((with_reducible refine an ?_ ?_); focus exact Au))
                  refine ret_eq ?_; simp only [go_sem]
end Go.AL
end
section
/- What is read of arguments that are traces or lists. No condition. -/
namespace Go.AL
open Go Go.RowKit
set_option maxRecDepth 100000
section
variable {H : Type} {enc : TypeId × Value → H} {W : World}
theorem rdInts : Rd enc Go.Proofs.Tryz.prog W 42 1 aInts (fun l => l.length ≤ maxLen) :=
  (Rd.slice Go.Proofs.Tryz.underlying42 (by kernel_rfl : Program.cellsOf Go.Proofs.Tryz.prog 3 = 1) (by decide) (Rd.int Go.Proofs.Tryz.underlying3)).map id (fun _ => rfl) (fun _ h => h.1)
theorem rdRows : Rd enc Go.Proofs.Tryz.prog W 31 1 aRows (fun l => l.length ≤ maxLen) :=
  (Rd.slice Go.Proofs.Tryz.underlying31 (by kernel_rfl : Program.cellsOf Go.Proofs.Tryz.prog 42 = 1) (by decide) rdInts).map id (fun _ => rfl) (fun _ h => h.1)
theorem rdAsg : Rd enc Go.Proofs.Tryz.prog W 157 2 aAsg (fun _ => True) :=
  (Rd.struct (ts := [3, 3]) Go.Proofs.Tryz.underlying157 rfl rfl (by kernel_rfl) (by kernel_rfl)
    (.cons (Rd.int Go.Proofs.Tryz.underlying3) (fun _ => ⟨rfl, rfl⟩) (.cons (Rd.int Go.Proofs.Tryz.underlying3) (fun _ => ⟨rfl, rfl⟩) .nil))).map (fun (y : Int × Int × Unit) => (y.1, y.2.1)) (fun _ => rfl) (fun _ _ => trivial)
theorem rdAsgs : Rd enc Go.Proofs.Tryz.prog W 73 1 aAsgs (fun _ => True) :=
  (Rd.slice Go.Proofs.Tryz.underlying73 (by kernel_rfl : Program.cellsOf Go.Proofs.Tryz.prog 157 = 2) (by decide) rdAsg).map id (fun _ => rfl) (fun _ _ => trivial)
theorem rdVar : Rd enc Go.Proofs.Tryz.prog W 155 2 aVar (fun _ => True) :=
  (Rd.struct (ts := [9, 3]) Go.Proofs.Tryz.underlying155 rfl rfl (by kernel_rfl) (by kernel_rfl)
    (.cons (Rd.str Go.Proofs.Tryz.underlying9) (fun _ => ⟨rfl, rfl⟩) (.cons (Rd.int Go.Proofs.Tryz.underlying3) (fun _ => ⟨rfl, rfl⟩) .nil))).map (fun (y : ByteArray × Int × Unit) => (y.1, y.2.1)) (fun _ => rfl) (fun _ _ => trivial)
theorem rdVars : Rd enc Go.Proofs.Tryz.prog W 52 1 aVars (fun _ => True) :=
  (Rd.slice Go.Proofs.Tryz.underlying52 (by kernel_rfl : Program.cellsOf Go.Proofs.Tryz.prog 155 = 2) (by decide) rdVar).map id (fun _ => rfl) (fun _ _ => trivial)
theorem rdEv : Rd enc Go.Proofs.Tryz.prog W 75 5 aEv (fun _ => True) :=
  (Rd.struct (ts := [3, 3, 3, 3, 73]) Go.Proofs.Tryz.underlying75 rfl rfl (by kernel_rfl) (by kernel_rfl)
    (.cons (Rd.int Go.Proofs.Tryz.underlying3) (fun _ => ⟨rfl, rfl⟩) (.cons (Rd.int Go.Proofs.Tryz.underlying3) (fun _ => ⟨rfl, rfl⟩) (.cons (Rd.int Go.Proofs.Tryz.underlying3) (fun _ => ⟨rfl, rfl⟩)
      (.cons (Rd.int Go.Proofs.Tryz.underlying3) (fun _ => ⟨rfl, rfl⟩) (.cons rdAsgs (fun _ => ⟨rfl, rfl⟩) .nil)))))).map (fun (y : Int × Int × Int × Int × List (Int × Int) × Unit) => ⟨y.1, y.2.1, y.2.2.1, y.2.2.2.1, y.2.2.2.2.1⟩) (fun _ => rfl) (fun _ _ => trivial)
end
end Go.AL
end
section
/- A trace is read: the events of its processes are no more than a slice may have. No condition. -/
namespace Go.AL
open Go Go.RowKit
set_option maxRecDepth 100000
section
variable {H : Type} {enc : TypeId × Value → H} {W : World}
theorem rdEvsM : Rd enc Go.Proofs.Tryz.prog W 53 1 aEvs (fun l => l.length ≤ maxLen) :=
  (Rd.slice Go.Proofs.Tryz.underlying53 (by kernel_rfl : Program.cellsOf Go.Proofs.Tryz.prog 75 = 5) (by decide) rdEv).map id (fun _ => rfl) (fun _ h => h.1)
theorem rdPrM : Rd enc Go.Proofs.Tryz.prog W 55 3 aPr (fun p => p.evs.length ≤ maxLen) :=
  (Rd.struct (ts := [9, 52, 53]) Go.Proofs.Tryz.underlying55 rfl rfl (by kernel_rfl) (by kernel_rfl)
    (.cons (Rd.str Go.Proofs.Tryz.underlying9) (fun _ => ⟨rfl, rfl⟩) (.cons rdVars (fun _ => ⟨rfl, rfl⟩) (.cons rdEvsM (fun _ => ⟨rfl, rfl⟩) .nil)))).map (fun (y : ByteArray × List (ByteArray × Int) × List Ev × Unit) => ⟨y.1, y.2.1, y.2.2.1⟩) (fun _ => rfl) (fun _ h => h.2.2.1)
theorem rdPrsM : Rd enc Go.Proofs.Tryz.prog W 22 1 aPrs (fun l => l.length ≤ maxLen ∧ ∀ p ∈ l, p.evs.length ≤ 9223372036854775807) :=
  (Rd.slice Go.Proofs.Tryz.underlying22 (by kernel_rfl : Program.cellsOf Go.Proofs.Tryz.prog 55 = 3) (by decide) rdPrM).map id (fun _ => rfl) (fun _ h => h)
theorem rdTrM : Rd enc Go.Proofs.Tryz.prog W 24 1 aTr (fun l => l.length ≤ maxLen ∧ ∀ p ∈ l, p.evs.length ≤ 9223372036854775807) :=
  (Rd.struct (ts := [22]) Go.Proofs.Tryz.underlying24 rfl rfl (by kernel_rfl) (by kernel_rfl) (.cons rdPrsM (fun _ => ⟨rfl, rfl⟩) .nil)).map (fun (y : List Pr × Unit) => y.1) (fun _ => rfl) (fun _ h => h.1)
end
end Go.AL
end
section
/- Barriers, plainly. No condition. -/
namespace Go.AL
open Go Go.RowKit
set_option maxRecDepth 4000
theorem opn_level {ps : List Pr} {bad : List Int → Bool} {k : Int} (hk : k ≤ off ps ps.length) (hb : ∀ d, isF ps d = true → d.sum = k → bad d = true) : ∀ (m : Nat) {c : List Int}, isF ps c = true → c.sum + m = k → opnV ps bad c = false
  | 0, c, hc, hs => by
    cases ho : opnV ps bad c with
    | false => rfl
    | true =>
      have := opn_bad hc ho
      rw [hb c hc (by omega)] at this; cases this
  | m + 1, c, hc, hs => by
    cases ho : opnV ps bad c with
    | false => rfl
    | true =>
      rw [opnV_stp hc (by omega), Bool.and_eq_true, List.any_eq_true] at ho
      obtain ⟨_, p, hp, ho⟩ := ho
      obtain ⟨g1, g2, _, _⟩ := en_sum hc (Nat.le_refl _) hp
      rw [opn_level hk hb m g1 (by omega)] at ho; cases ho
theorem opn_but {ps : List Pr} (hv : validF ps = true) {bad : List Int → Bool} {to : List Int} (ht : isF ps to = true) (hto : bad to = false) (hb : ∀ d, isF ps d = true → d.sum ≠ to.sum → bad d = false) :
    ∀ (n : Nat) {c : List Int}, isF ps c = true → c.sum + n = off ps ps.length → (leqF c to = true ∨ leqF to c = true) → opnV ps bad c = true
  | 0, c, hc, hs, hle => by
    have hbc : bad c = false := by
      by_cases e : c.sum = to.sum
      · have : c = to := by
          rcases hle with h | h
          · exact (leq_sum h).2 e
          · exact ((leq_sum h).2 e.symm).symm
        rw [this]; exact hto
      · exact hb c hc e
    rw [opnV_full (by omega), hbc]; rfl
  | n + 1, c, hc, hs, hle => by
    have hbc : bad c = false := by
      by_cases e : c.sum = to.sum
      · have : c = to := by
          rcases hle with h | h
          · exact (leq_sum h).2 e
          · exact ((leq_sum h).2 e.symm).symm
        rw [this]; exact hto
      · exact hb c hc e
    have hl := (isF_iff.1 hc).1
    have tl := (isF_iff.1 ht).1
    have hex : ∃ p, p ∈ enF ps c c.length ∧ (leqF (stpC c p) to = true ∨ leqF to (stpC c p) = true) := by
      by_cases h : leqF c to = true ∧ c.sum < to.sum
      · obtain ⟨p, h1, h2, h3, h4⟩ := first_to hv hc ht h.1 h.2
        exact ⟨p, mem_enF.2 ⟨by omega, (firstP_some h1).2.1⟩, .inl h4⟩
      · have hup : leqF to c = true := by
          rcases hle with h2 | h2
          · have h3 := leq_sum h2
            have : c.sum = to.sum := by
              apply Classical.byContradiction; intro e; exact h ⟨h2, by omega⟩
            rw [h3.2 this]; exact leq_refl _
          · exact h2
        obtain ⟨p, h1, h2, h3, h4⟩ := first_to hv hc (fullC_is hv) (leq_full hc) (by rw [fullC_sum]; omega)
        refine ⟨p, mem_enF.2 ⟨by omega, (firstP_some h1).2.1⟩, .inr ((leq_at tl (by rw [stp_len]; exact hl)).2 fun q hq => ?_)⟩
        have := (leq_at tl hl).1 hup q hq
        rw [cAt_stp (by omega)]
        split <;> omega
    obtain ⟨p, h1, h2⟩ := hex
    obtain ⟨g1, g2, _, _⟩ := en_sum hc (Nat.le_refl _) h1
    rw [opnV_stp hc (by omega), hbc]
    show (true && _) = true
    rw [Bool.true_and, List.any_eq_true]
    exact ⟨p, h1, opn_but hv ht hto hb n g1 (by omega) h2⟩
theorem level_nodup {ps : List Pr} (hv : validF ps = true) (k : Nat) : (levF ps k).Nodup := by
  have := asc_lev hv k
  unfold Asc at this
  exact this.imp fun {a b} h e => by subst e; rw [cmpL_irr] at h; omega
/-- A list without one of its members. -/
theorem without_mem {l : List (List Int)} (hn : l.Nodup) {k : Nat} (hk : k < l.length) {c : List Int} : c ∈ l.take k ++ l.drop (k + 1) ↔ c ∈ l ∧ c ≠ l[k] := by
  have e : l = l.take k ++ l[k] :: l.drop (k + 1) := by rw [List.getElem_cons_drop, List.take_append_drop]
  have hn2 := hn
  rw [e, List.nodup_append] at hn2
  obtain ⟨n1, n2, n3⟩ := hn2
  rw [List.nodup_cons] at n2
  constructor
  · intro h
    rcases List.mem_append.1 h with h | h
    · exact ⟨List.mem_of_mem_take h, fun e2 => n3 c h l[k] List.mem_cons_self e2⟩
    · exact ⟨List.mem_of_mem_drop h, fun e2 => n2.1 (e2 ▸ h)⟩
  · rintro ⟨h1, h2⟩
    rw [e] at h1
    rcases List.mem_append.1 h1 with h | h
    · exact List.mem_append_left _ h
    · rcases List.mem_cons.1 h with h | h
      · exact absurd h h2
      · exact List.mem_append_right _ h
end Go.AL
end
section
/- The law CutsLattice: the walk. No condition. -/
namespace Go.AL
open Go Go.RowKit
set_option maxRecDepth 4000
abbrev au16 (n : Int) : AV := .v (.int .u16 n)
theorem tmod_nat {x : Int} {n : Nat} (h : 0 ≤ x) : x.tmod (n : Int) = ((x.toNat % n : Nat) : Int) := by
  obtain ⟨k, rfl⟩ := Int.eq_ofNat_of_zero_le h
  rfl
end Go.AL
end
