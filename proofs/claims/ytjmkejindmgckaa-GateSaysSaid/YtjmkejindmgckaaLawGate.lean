/-
  cullaw.GateSays: the law. No condition.
-/
import Derived.Test.YtjmkejindmgckaaGate3
import Derived.Test.YtjmkejindmgckaaCount
import Derived.Deep.DeepCutAuto
namespace Go.Proofs.Ytjmkejindmgckaa
open Go.RowKit

def keepB (th r : Int) : Bool := if isDraw th = true ∧ isDraw r = true then decide (th ≤ r) else false
def keepE (th r : Int) : Int := if isDraw th = true ∧ isDraw r = true then 0 else 1
def levV (n : Int) : Int := if 0 ≤ n ∧ n ≤ 20 then 72057594037927936 - ((72057594037927936 / 2 ^ n.toNat : Nat) : Int) else 0
def levE (n : Int) : Int := if 0 ≤ n ∧ n ≤ 20 then 0 else 1
def partV (num den : Int) : Int := if 1 ≤ num ∧ num ≤ den ∧ den ≤ 1000000000000 then 72057594037927936 - ((ceilOf (72057594037927936 * num.toNat) den.toNat : Nat) : Int) else 0
def partE (num den : Int) : Int := if 1 ≤ num ∧ num ≤ den ∧ den ≤ 1000000000000 then 0 else 1
def quoN (n th : Int) : Nat := 72057594037927936 * n.toNat / (72057594037927936 - th).toNat
def cntOk (n th : Int) : Prop := 0 ≤ n ∧ n ≤ 1000000000000 ∧ isDraw th = true
instance (n th : Int) : Decidable (cntOk n th) := by unfold cntOk; infer_instance
def cntV (n th : Int) : Int := if cntOk n th then (if quoN n th ≤ 4611686018427387904 then (quoN n th : Int) else 0) else 0
def cntE (n th : Int) : Int := if cntOk n th then (if quoN n th ≤ 4611686018427387904 then 0 else 2) else 1
theorem isDraw_in {x : Int} (h : isDraw x = true) : 0 ≤ x ∧ x ≤ 72057594037927935 := by simpa [isDraw, inR] using h

theorem keep_any {th r : Int} {B : Bool} {E : Int} (hB : keepB th r = B) (hE : keepE th r = E) (w : World) : Calls Try.prog 50 #[.int .i64 th, .int .i64 r] w fun e w' => e = .returned (.tuple #[.bool B, .int .i64 E]) ∧ w = w' := by
  subst hB
  subst hE
  by_cases h : isDraw th = true ∧ isDraw r = true
  · rw [keepB, keepE, if_pos h, if_pos h]; exact keep_ok h.1 h.2 w
  · rw [keepB, keepE, if_neg h, if_neg h]
    refine keep_bad ?_ w
    cases h1 : isDraw th
    · exact .inl rfl
    · cases h2 : isDraw r
      · exact .inr ⟨rfl, rfl⟩
      · exact absurd ⟨h1, h2⟩ h
theorem level_any {n V E : Int} (hV : levV n = V) (hE : levE n = E) (w : World) : Calls Try.prog 51 #[.int .i64 n] w fun e w' => e = .returned (.tuple #[.int .i64 V, .int .i64 E]) ∧ w = w' := by
  subst hV
  subst hE
  by_cases h : 0 ≤ n ∧ n ≤ 20
  · obtain ⟨k, rfl⟩ := Int.eq_ofNat_of_zero_le h.1
    rw [levV, levE, if_pos h, if_pos h]
    exact level_ok (by omega) rfl w
  · rw [levV, levE, if_neg h, if_neg h]
    exact level_bad (by omega) w
theorem part_any {num den V E : Int} (hV : partV num den = V) (hE : partE num den = E) (w : World) : Calls Try.prog 52 #[.int .i64 num, .int .i64 den] w fun e w' => e = .returned (.tuple #[.int .i64 V, .int .i64 E]) ∧ ∃ q, w' = w.drewN q := by
  subst hV
  subst hE
  by_cases h : 1 ≤ num ∧ num ≤ den ∧ den ≤ 1000000000000
  · obtain ⟨a, rfl⟩ := Int.eq_ofNat_of_zero_le (show 0 ≤ num by omega)
    obtain ⟨b, rfl⟩ := Int.eq_ofNat_of_zero_le (show 0 ≤ den by omega)
    rw [partV, partE, if_pos h, if_pos h]
    exact part_ok (by omega) (by omega) (by omega) rfl w
  · rw [partV, partE, if_neg h, if_neg h]
    refine (part_bad ?_ w).mono ?_
    · unfold partBad; omega
    · rintro e w' ⟨rfl, rfl⟩
      exact ⟨rfl, 0, rfl⟩
theorem countIs {n th V E : Int} (hV : cntV n th = V) (hE : cntE n th = E) (w : World) : Calls Try.prog 53 #[.int .i64 n, .int .i64 th] w fun e w' => e = .returned (.tuple #[.int .i64 V, .int .i64 E]) ∧ ∃ q, w' = w.drewN q := by
  subst hV
  subst hE
  by_cases h : cntOk n th
  · rw [cntV, cntE, if_pos h, if_pos h]
    obtain ⟨h1, h2, h3⟩ := h
    have h4 := isDraw_in h3
    obtain ⟨a, rfl⟩ := Int.eq_ofNat_of_zero_le h1
    obtain ⟨b, rfl⟩ := Int.eq_ofNat_of_zero_le h4.1
    obtain ⟨d, hd⟩ : ∃ d : Nat, (72057594037927936 : Int) - (b : Int) = (d : Int) := ⟨72057594037927936 - b, by omega⟩
    have e : quoN (a : Int) (b : Int) = 72057594037927936 * a / d := by rw [quoN, hd, Int.toNat_natCast, Int.toNat_natCast]
    exact count_ok (th := b) (d := d) (F := quoN a b) (by omega) (by omega) (by omega) e.symm w
  · rw [cntV, cntE, if_neg h, if_neg h]
    refine (count_bad ?_ w).mono ?_
    · unfold countBad
      by_cases h1 : n < 0
      · exact .inl h1
      · by_cases h2 : 1000000000000 < n
        · exact .inr (.inl ⟨h1, h2⟩)
        · refine .inr (.inr ⟨h1, h2, ?_⟩)
          cases h3 : isDraw th
          · rfl
          · exact absurd ⟨by omega, by omega, h3⟩ h
    · rintro e w' ⟨rfl, rfl⟩
      exact ⟨rfl, 0, rfl⟩
theorem level_one (w : World) : Calls Try.prog 51 #[.int .i64 1] w fun e w' => e = .returned (.tuple #[.int .i64 36028797018963968, .int .i64 0]) ∧ w = w' := level_any (by decide) (by decide) w
theorem rlevelIs {n V : Int} (h : 0 ≤ n ∧ n ≤ 20) (hV : levV n = V) (w : World) : Calls Try.prog 55 #[.int .i64 n] w fun e w' => e = .returned (.int .i64 V) ∧ w = w' := by
  subst hV
  obtain ⟨k, rfl⟩ := Int.eq_ofNat_of_zero_le h.1
  rw [levV, if_pos h]
  exact rlevel_ok (by omega) rfl w
theorem rpartIs {num den V : Int} (h : 1 ≤ num ∧ num ≤ den ∧ den ≤ 1000000000000) (hV : partV num den = V) (w : World) : Calls Try.prog 56 #[.int .i64 num, .int .i64 den] w fun e w' => e = .returned (.int .i64 V) ∧ w = w' := by
  subst hV
  obtain ⟨a, rfl⟩ := Int.eq_ofNat_of_zero_le (show 0 ≤ num by omega)
  obtain ⟨b, rfl⟩ := Int.eq_ofNat_of_zero_le (show 0 ≤ den by omega)
  rw [partV, if_pos h]
  exact rpart_ok (by omega) (by omega) (by omega) rfl w
theorem rmanyIs {n th : Int} {K : Int} (h : cntOk n th) (hK : (if quoN n th ≤ 4611686018427387904 then (quoN n th : Int) else -1) = K) (w : World) : Calls Try.prog 57 #[.int .i64 n, .int .i64 th] w fun e w' => e = .returned (.int .i64 K) ∧ w = w' := by
  subst hK
  obtain ⟨h1, h2, h3⟩ := h
  have h4 := isDraw_in h3
  obtain ⟨a, rfl⟩ := Int.eq_ofNat_of_zero_le h1
  obtain ⟨b, rfl⟩ := Int.eq_ofNat_of_zero_le h4.1
  obtain ⟨d, hd⟩ : ∃ d : Nat, (72057594037927936 : Int) - (b : Int) = (d : Int) := ⟨72057594037927936 - b, by omega⟩
  have e : quoN (a : Int) (b : Int) = 72057594037927936 * a / d := by rw [quoN, hd, Int.toNat_natCast, Int.toNat_natCast]
  exact rmany_ok (th := b) (d := d) (F := quoN a b) (by omega) (by omega) (by omega) e.symm w
theorem rcountIs {x : Int} {b : Bool} (h : inR x 0 1000000000000 = b) (w : World) : Calls Try.prog 46 #[.int .i64 x] w fun e w' => e = .returned (.bool b) ∧ w = w' := by
  have k := count_any x w; rw [h] at k; exact k

set_option maxRecDepth 100000 in
set_option maxHeartbeats 3200000 in
theorem law_gate000 {th r n num den : Int} (w : World) (hA : ¬ (isDraw th = true ∧ isDraw r = true)) (hB : ¬ (0 ≤ n ∧ n ≤ 20)) (hC : ¬ (1 ≤ num ∧ num ≤ den ∧ den ≤ 1000000000000)) :
    Calls Try.prog 9 #[.int .i64 th, .int .i64 r, .int .i64 n, .int .i64 num, .int .i64 den] w fun e w' => e = .returned (.bool true) ∧ Below w.heap.size w w' := by
  have HA := hide hA
  have HB := hide hB
  have HC := hide hC
  clear hA hB hC
  obtain ⟨kB, hkB⟩ : ∃ b, keepB th r = b := ⟨_, rfl⟩
  obtain ⟨kE, hkE⟩ : ∃ b, keepE th r = b := ⟨_, rfl⟩
  obtain ⟨lV, hlV⟩ : ∃ b, levV n = b := ⟨_, rfl⟩
  obtain ⟨lE, hlE⟩ : ∃ b, levE n = b := ⟨_, rfl⟩
  obtain ⟨pV, hpV⟩ : ∃ b, partV num den = b := ⟨_, rfl⟩
  obtain ⟨pE, hpE⟩ : ∃ b, partE num den = b := ⟨_, rfl⟩
  obtain ⟨cV, hcV⟩ : ∃ b, cntV n th = b := ⟨_, rfl⟩
  obtain ⟨cE, hcE⟩ : ∃ b, cntE n th = b := ⟨_, rfl⟩
  have KB := hide hkB
  have KE := hide hkE
  have LV := hide hlV
  have LE := hide hlE
  have PV := hide hpV
  have PE := hide hpE
  have CV := hide hcV
  have CE := hide hcE
  clear hkB hkE hlV hlE hpV hpE hcV hcE
  go_enter Try.func9, Try.ntmps9
  go_wp2_with fail
  refine (keep_any KB.out KE.out _).mono ?_
  rintro e w' ⟨rfl, rfl⟩
  go_wp2_with fail
  refine (level_any LV.out LE.out _).mono ?_
  rintro e w' ⟨rfl, rfl⟩
  go_wp2_with fail
  refine (part_any PV.out PE.out _).mono ?_
  rintro e w' ⟨rfl, q1, rfl⟩
  go_wp2_with fail
  refine (countIs CV.out CE.out _).mono ?_
  rintro e w' ⟨rfl, q2, rfl⟩
  go_wp2_with fail
  refine (level_one _).mono ?_
  rintro e w' ⟨rfl, rfl⟩
  go_upto_region 8 with fail
  obtain ⟨w1, hw1⟩ : ∃ w1, w.drewN (q1 + q2) = w1 := ⟨_, rfl⟩
  have HW1 := hide hw1
  clear hw1
  obtain ⟨Ab, hAb⟩ : ∃ b, isDraw th = b := ⟨_, rfl⟩
  obtain ⟨Bb, hBb⟩ : ∃ b, isDraw r = b := ⟨_, rfl⟩
  have HAb := hide hAb
  have HBb := hide hBb
  clear hAb hBb
  rw [HW1.out]
  go_cut [62] (fun s62 wx => s62 = .bool (!(Ab && Bb)) ∧ w1 = wx)
  case first =>
    cases Ab
    · go_wp2_with fail
      refine (draw_is HAb.out _).mono ?_
      rintro e w' ⟨rfl, rfl⟩
      go_wp2_with fail
      go_meet
      exact ⟨rfl, by trivial⟩
    · go_wp2_with fail
      refine (draw_is HAb.out _).mono ?_
      rintro e w' ⟨rfl, rfl⟩
      go_wp2_with fail
      refine (draw_is HBb.out _).mono ?_
      rintro e w' ⟨rfl, rfl⟩
      cases Bb
      all_goals
        go_wp2_with fail
        go_meet
        exact ⟨rfl, by trivial⟩
  case rest =>
    obtain ⟨rfl, rfl⟩ := hcut
    have ok := HA.out
    · have hA : (!(Ab && Bb)) = true := by
        cases h1 : (Ab && Bb)
        · rfl
        · simp only [Bool.and_eq_true] at h1
          exact absurd ⟨HAb.out.trans h1.1, HBb.out.trans h1.2⟩ ok
      rw [hA]
      have hB2 : kB = false := by rw [← KB.out, keepB, if_neg ok]
      have hE2 : kE = 1 := by rw [← KE.out, keepE, if_neg ok]
      subst hB2
      subst hE2
      clear hA ok HAb HBb
      go_upto_region 13 with fail
      go_cut [82] (fun s82 wx => s82 = .bool (!decide (0 ≤ n ∧ n ≤ 20)) ∧ w1 = wx)
      case first =>
        have hcs : (n < 0 ∨ ¬ n < 0 ∧ 20 < n ∨ ¬ n < 0 ∧ ¬ 20 < n) := by omega
        rcases hcs with h | ⟨h, h2⟩ | ⟨h, h2⟩
        all_goals
          go_wp2_with fail
          go_meet
          exact ⟨by first | rfl | (congr 1; simp; omega), by trivial⟩
      case rest =>
        obtain ⟨rfl, rfl⟩ := hcut
        have ok := HB.out
        · have hE2 : lE = 1 := by rw [← LE.out, levE, if_neg ok]
          have hV2 : lV = 0 := by rw [← LV.out, levV, if_neg ok]
          subst hE2
          subst hV2
          have d1 : decide (0 ≤ n ∧ n ≤ 20) = false := decide_eq_false ok
          rw [d1]
          clear ok d1
          go_upto_region 18 with fail
          go_cut [111] (fun s111 wx => s111 = .bool (!decide (1 ≤ num ∧ num ≤ den ∧ den ≤ 1000000000000)) ∧ w1 = wx)
          case first =>
            have hcs : (den < 1 ∨ ¬ den < 1 ∧ 1000000000000 < den ∨ ¬ den < 1 ∧ ¬ 1000000000000 < den ∧ num < 1 ∨ ¬ den < 1 ∧ ¬ 1000000000000 < den ∧ ¬ num < 1 ∧ den < num ∨ ¬ den < 1 ∧ ¬ 1000000000000 < den ∧ ¬ num < 1 ∧ ¬ den < num) := by omega
            rcases hcs with h | ⟨h, h2⟩ | ⟨h, h2, h3⟩ | ⟨h, h2, h3, h4⟩ | ⟨h, h2, h3, h4⟩
            all_goals
              go_wp2_with fail
              go_meet
              exact ⟨by first | rfl | (congr 1; simp; omega), by trivial⟩
          case rest =>
            obtain ⟨rfl, rfl⟩ := hcut
            have ok := HC.out
            · have hE2 : pE = 1 := by rw [← PE.out, partE, if_neg ok]
              have hV2 : pV = 0 := by rw [← PV.out, partV, if_neg ok]
              subst hE2
              subst hV2
              have d1 : decide (1 ≤ num ∧ num ≤ den ∧ den ≤ 1000000000000) = false := decide_eq_false ok
              rw [d1]
              clear ok d1
              go_upto_region 23 with fail
              obtain ⟨Cb, hCb⟩ : ∃ b, inR n 0 1000000000000 = b := ⟨_, rfl⟩
              obtain ⟨Db, hDb⟩ : ∃ b, isDraw th = b := ⟨_, rfl⟩
              have HCb := hide hCb
              have HDb := hide hDb
              clear hCb hDb
              go_cut [134] (fun s134 wx => s134 = .bool (!(Cb && Db)) ∧ w1 = wx)
              case first =>
                cases Cb
                · go_wp2_with fail
                  refine (rcountIs HCb.out _).mono ?_
                  rintro e w' ⟨rfl, rfl⟩
                  go_wp2_with fail
                  go_meet
                  exact ⟨rfl, by trivial⟩
                · go_wp2_with fail
                  refine (rcountIs HCb.out _).mono ?_
                  rintro e w' ⟨rfl, rfl⟩
                  go_wp2_with fail
                  refine (draw_is HDb.out _).mono ?_
                  rintro e w' ⟨rfl, rfl⟩
                  cases Db
                  all_goals
                    go_wp2_with fail
                    go_meet
                    exact ⟨rfl, by trivial⟩
              case rest =>
                obtain ⟨rfl, rfl⟩ := hcut
                cases hE : (!(Cb && Db))
                · have ok : cntOk n th := by
                    simp only [Bool.not_eq_false', Bool.and_eq_true] at hE
                    have h1 := HCb.out
                    have h2 := HDb.out
                    rw [hE.1] at h1
                    rw [hE.2] at h2
                    have h3 : 0 ≤ n ∧ n ≤ 1000000000000 := by simpa [inR] using h1
                    exact ⟨h3.1, h3.2, h2⟩
                  have OK := hide ok
                  clear hE ok
                  by_cases hF : quoN n th ≤ 4611686018427387904
                  · have hK : (if quoN n th ≤ 4611686018427387904 then (quoN n th : Int) else -1) = (quoN n th : Int) := if_pos hF
                    have hV : cV = (quoN n th : Int) := by rw [← CV.out, cntV, if_pos OK.out, if_pos hF]
                    have hE2 : cE = 0 := by rw [← CE.out, cntE, if_pos OK.out, if_pos hF]
                    obtain ⟨F, hFn⟩ : ∃ F : Nat, quoN n th = F := ⟨_, rfl⟩
                    have HK := hide hK
                    rw [hFn] at hV HK
                    subst hV
                    subst hE2
                    have f0 : (0 : Int) ≤ (F : Int) := by omega
                    have t1 : ((F : Int) == (F : Int)) = true := by simp
                    have HFn := hide hFn
                    rw [← HFn.out] at HK
                    clear hK hF hFn
                    go_wp2_with fail
                    refine (rmanyIs OK.out (HK.out.trans (by rw [HFn.out])) _).mono ?_
                    rintro e w' ⟨rfl, rfl⟩
                    go_wp2_with fail
                    go_ret
                    exact ⟨rfl, by rw [← HW1.out]; repeat' (first | assumption | with_reducible exact Below.refl _ _ | with_reducible apply Below.drew | with_reducible apply below_drewN | with_reducible apply below_alloc | with_reducible refine below_set ?_ ?_ _ | (simp only [World.size_alloc, World.heap_drewN]; omega) | (simp; omega))⟩
                  · have hK : (if quoN n th ≤ 4611686018427387904 then (quoN n th : Int) else -1) = -1 := if_neg hF
                    have hV : cV = 0 := by rw [← CV.out, cntV, if_pos OK.out, if_neg hF]
                    have hE2 : cE = 2 := by rw [← CE.out, cntE, if_pos OK.out, if_neg hF]
                    have HK := hide hK
                    subst hV
                    subst hE2
                    clear hK hF
                    go_wp2_with fail
                    refine (rmanyIs OK.out HK.out _).mono ?_
                    rintro e w' ⟨rfl, rfl⟩
                    go_wp2_with fail
                    go_ret
                    exact ⟨rfl, by rw [← HW1.out]; repeat' (first | assumption | with_reducible exact Below.refl _ _ | with_reducible apply Below.drew | with_reducible apply below_drewN | with_reducible apply below_alloc | with_reducible refine below_set ?_ ?_ _ | (simp only [World.size_alloc, World.heap_drewN]; omega) | (simp; omega))⟩
                · have ok : ¬ cntOk n th := by
                    rintro ⟨h1, h2, h3⟩
                    have h4 := HCb.out
                    have h5 := HDb.out
                    rw [inR_yes ⟨h1, h2⟩] at h4
                    rw [h3] at h5
                    rw [← h4, ← h5] at hE
                    simp at hE
                  have hV : cV = 0 := by rw [← CV.out, cntV, if_neg ok]
                  have hE2 : cE = 1 := by rw [← CE.out, cntE, if_neg ok]
                  subst hV
                  subst hE2
                  clear hE ok
                  go_wp2_with fail
                  go_ret
                  exact ⟨rfl, by rw [← HW1.out]; repeat' (first | assumption | with_reducible exact Below.refl _ _ | with_reducible apply Below.drew | with_reducible apply below_drewN | with_reducible apply below_alloc | with_reducible refine below_set ?_ ?_ _ | (simp only [World.size_alloc, World.heap_drewN]; omega) | (simp; omega))⟩
set_option maxRecDepth 100000 in
set_option maxHeartbeats 3200000 in
theorem law_gate001 {th r n num den : Int} (w : World) (hA : ¬ (isDraw th = true ∧ isDraw r = true)) (hB : ¬ (0 ≤ n ∧ n ≤ 20)) (hC : (1 ≤ num ∧ num ≤ den ∧ den ≤ 1000000000000)) :
    Calls Try.prog 9 #[.int .i64 th, .int .i64 r, .int .i64 n, .int .i64 num, .int .i64 den] w fun e w' => e = .returned (.bool true) ∧ Below w.heap.size w w' := by
  have HA := hide hA
  have HB := hide hB
  have HC := hide hC
  clear hA hB hC
  obtain ⟨kB, hkB⟩ : ∃ b, keepB th r = b := ⟨_, rfl⟩
  obtain ⟨kE, hkE⟩ : ∃ b, keepE th r = b := ⟨_, rfl⟩
  obtain ⟨lV, hlV⟩ : ∃ b, levV n = b := ⟨_, rfl⟩
  obtain ⟨lE, hlE⟩ : ∃ b, levE n = b := ⟨_, rfl⟩
  obtain ⟨pV, hpV⟩ : ∃ b, partV num den = b := ⟨_, rfl⟩
  obtain ⟨pE, hpE⟩ : ∃ b, partE num den = b := ⟨_, rfl⟩
  obtain ⟨cV, hcV⟩ : ∃ b, cntV n th = b := ⟨_, rfl⟩
  obtain ⟨cE, hcE⟩ : ∃ b, cntE n th = b := ⟨_, rfl⟩
  have KB := hide hkB
  have KE := hide hkE
  have LV := hide hlV
  have LE := hide hlE
  have PV := hide hpV
  have PE := hide hpE
  have CV := hide hcV
  have CE := hide hcE
  clear hkB hkE hlV hlE hpV hpE hcV hcE
  go_enter Try.func9, Try.ntmps9
  go_wp2_with fail
  refine (keep_any KB.out KE.out _).mono ?_
  rintro e w' ⟨rfl, rfl⟩
  go_wp2_with fail
  refine (level_any LV.out LE.out _).mono ?_
  rintro e w' ⟨rfl, rfl⟩
  go_wp2_with fail
  refine (part_any PV.out PE.out _).mono ?_
  rintro e w' ⟨rfl, q1, rfl⟩
  go_wp2_with fail
  refine (countIs CV.out CE.out _).mono ?_
  rintro e w' ⟨rfl, q2, rfl⟩
  go_wp2_with fail
  refine (level_one _).mono ?_
  rintro e w' ⟨rfl, rfl⟩
  go_upto_region 8 with fail
  obtain ⟨w1, hw1⟩ : ∃ w1, w.drewN (q1 + q2) = w1 := ⟨_, rfl⟩
  have HW1 := hide hw1
  clear hw1
  obtain ⟨Ab, hAb⟩ : ∃ b, isDraw th = b := ⟨_, rfl⟩
  obtain ⟨Bb, hBb⟩ : ∃ b, isDraw r = b := ⟨_, rfl⟩
  have HAb := hide hAb
  have HBb := hide hBb
  clear hAb hBb
  rw [HW1.out]
  go_cut [62] (fun s62 wx => s62 = .bool (!(Ab && Bb)) ∧ w1 = wx)
  case first =>
    cases Ab
    · go_wp2_with fail
      refine (draw_is HAb.out _).mono ?_
      rintro e w' ⟨rfl, rfl⟩
      go_wp2_with fail
      go_meet
      exact ⟨rfl, by trivial⟩
    · go_wp2_with fail
      refine (draw_is HAb.out _).mono ?_
      rintro e w' ⟨rfl, rfl⟩
      go_wp2_with fail
      refine (draw_is HBb.out _).mono ?_
      rintro e w' ⟨rfl, rfl⟩
      cases Bb
      all_goals
        go_wp2_with fail
        go_meet
        exact ⟨rfl, by trivial⟩
  case rest =>
    obtain ⟨rfl, rfl⟩ := hcut
    have ok := HA.out
    · have hA : (!(Ab && Bb)) = true := by
        cases h1 : (Ab && Bb)
        · rfl
        · simp only [Bool.and_eq_true] at h1
          exact absurd ⟨HAb.out.trans h1.1, HBb.out.trans h1.2⟩ ok
      rw [hA]
      have hB2 : kB = false := by rw [← KB.out, keepB, if_neg ok]
      have hE2 : kE = 1 := by rw [← KE.out, keepE, if_neg ok]
      subst hB2
      subst hE2
      clear hA ok HAb HBb
      go_upto_region 13 with fail
      go_cut [82] (fun s82 wx => s82 = .bool (!decide (0 ≤ n ∧ n ≤ 20)) ∧ w1 = wx)
      case first =>
        have hcs : (n < 0 ∨ ¬ n < 0 ∧ 20 < n ∨ ¬ n < 0 ∧ ¬ 20 < n) := by omega
        rcases hcs with h | ⟨h, h2⟩ | ⟨h, h2⟩
        all_goals
          go_wp2_with fail
          go_meet
          exact ⟨by first | rfl | (congr 1; simp; omega), by trivial⟩
      case rest =>
        obtain ⟨rfl, rfl⟩ := hcut
        have ok := HB.out
        · have hE2 : lE = 1 := by rw [← LE.out, levE, if_neg ok]
          have hV2 : lV = 0 := by rw [← LV.out, levV, if_neg ok]
          subst hE2
          subst hV2
          have d1 : decide (0 ≤ n ∧ n ≤ 20) = false := decide_eq_false ok
          rw [d1]
          clear ok d1
          go_upto_region 18 with fail
          go_cut [111] (fun s111 wx => s111 = .bool (!decide (1 ≤ num ∧ num ≤ den ∧ den ≤ 1000000000000)) ∧ w1 = wx)
          case first =>
            have hcs : (den < 1 ∨ ¬ den < 1 ∧ 1000000000000 < den ∨ ¬ den < 1 ∧ ¬ 1000000000000 < den ∧ num < 1 ∨ ¬ den < 1 ∧ ¬ 1000000000000 < den ∧ ¬ num < 1 ∧ den < num ∨ ¬ den < 1 ∧ ¬ 1000000000000 < den ∧ ¬ num < 1 ∧ ¬ den < num) := by omega
            rcases hcs with h | ⟨h, h2⟩ | ⟨h, h2, h3⟩ | ⟨h, h2, h3, h4⟩ | ⟨h, h2, h3, h4⟩
            all_goals
              go_wp2_with fail
              go_meet
              exact ⟨by first | rfl | (congr 1; simp; omega), by trivial⟩
          case rest =>
            obtain ⟨rfl, rfl⟩ := hcut
            have ok := HC.out
            · have hE2 : pE = 0 := by rw [← PE.out, partE, if_pos ok]
              subst hE2
              have d1 : decide (1 ≤ num ∧ num ≤ den ∧ den ≤ 1000000000000) = true := decide_eq_true ok
              rw [d1]
              have OK := hide ok
              have tv : (pV != pV) = false := by simp
              clear ok d1
              go_wp2_with fail
              refine (rpartIs OK.out PV.out _).mono ?_
              rintro e w' ⟨rfl, rfl⟩
              go_upto_region 23 with fail
              obtain ⟨Cb, hCb⟩ : ∃ b, inR n 0 1000000000000 = b := ⟨_, rfl⟩
              obtain ⟨Db, hDb⟩ : ∃ b, isDraw th = b := ⟨_, rfl⟩
              have HCb := hide hCb
              have HDb := hide hDb
              clear hCb hDb
              go_cut [134] (fun s134 wx => s134 = .bool (!(Cb && Db)) ∧ w1 = wx)
              case first =>
                cases Cb
                · go_wp2_with fail
                  refine (rcountIs HCb.out _).mono ?_
                  rintro e w' ⟨rfl, rfl⟩
                  go_wp2_with fail
                  go_meet
                  exact ⟨rfl, by trivial⟩
                · go_wp2_with fail
                  refine (rcountIs HCb.out _).mono ?_
                  rintro e w' ⟨rfl, rfl⟩
                  go_wp2_with fail
                  refine (draw_is HDb.out _).mono ?_
                  rintro e w' ⟨rfl, rfl⟩
                  cases Db
                  all_goals
                    go_wp2_with fail
                    go_meet
                    exact ⟨rfl, by trivial⟩
              case rest =>
                obtain ⟨rfl, rfl⟩ := hcut
                cases hE : (!(Cb && Db))
                · have ok : cntOk n th := by
                    simp only [Bool.not_eq_false', Bool.and_eq_true] at hE
                    have h1 := HCb.out
                    have h2 := HDb.out
                    rw [hE.1] at h1
                    rw [hE.2] at h2
                    have h3 : 0 ≤ n ∧ n ≤ 1000000000000 := by simpa [inR] using h1
                    exact ⟨h3.1, h3.2, h2⟩
                  have OK := hide ok
                  clear hE ok
                  by_cases hF : quoN n th ≤ 4611686018427387904
                  · have hK : (if quoN n th ≤ 4611686018427387904 then (quoN n th : Int) else -1) = (quoN n th : Int) := if_pos hF
                    have hV : cV = (quoN n th : Int) := by rw [← CV.out, cntV, if_pos OK.out, if_pos hF]
                    have hE2 : cE = 0 := by rw [← CE.out, cntE, if_pos OK.out, if_pos hF]
                    obtain ⟨F, hFn⟩ : ∃ F : Nat, quoN n th = F := ⟨_, rfl⟩
                    have HK := hide hK
                    rw [hFn] at hV HK
                    subst hV
                    subst hE2
                    have f0 : (0 : Int) ≤ (F : Int) := by omega
                    have t1 : ((F : Int) == (F : Int)) = true := by simp
                    have HFn := hide hFn
                    rw [← HFn.out] at HK
                    clear hK hF hFn
                    go_wp2_with fail
                    refine (rmanyIs OK.out (HK.out.trans (by rw [HFn.out])) _).mono ?_
                    rintro e w' ⟨rfl, rfl⟩
                    go_wp2_with fail
                    go_ret
                    exact ⟨rfl, by rw [← HW1.out]; repeat' (first | assumption | with_reducible exact Below.refl _ _ | with_reducible apply Below.drew | with_reducible apply below_drewN | with_reducible apply below_alloc | with_reducible refine below_set ?_ ?_ _ | (simp only [World.size_alloc, World.heap_drewN]; omega) | (simp; omega))⟩
                  · have hK : (if quoN n th ≤ 4611686018427387904 then (quoN n th : Int) else -1) = -1 := if_neg hF
                    have hV : cV = 0 := by rw [← CV.out, cntV, if_pos OK.out, if_neg hF]
                    have hE2 : cE = 2 := by rw [← CE.out, cntE, if_pos OK.out, if_neg hF]
                    have HK := hide hK
                    subst hV
                    subst hE2
                    clear hK hF
                    go_wp2_with fail
                    refine (rmanyIs OK.out HK.out _).mono ?_
                    rintro e w' ⟨rfl, rfl⟩
                    go_wp2_with fail
                    go_ret
                    exact ⟨rfl, by rw [← HW1.out]; repeat' (first | assumption | with_reducible exact Below.refl _ _ | with_reducible apply Below.drew | with_reducible apply below_drewN | with_reducible apply below_alloc | with_reducible refine below_set ?_ ?_ _ | (simp only [World.size_alloc, World.heap_drewN]; omega) | (simp; omega))⟩
                · have ok : ¬ cntOk n th := by
                    rintro ⟨h1, h2, h3⟩
                    have h4 := HCb.out
                    have h5 := HDb.out
                    rw [inR_yes ⟨h1, h2⟩] at h4
                    rw [h3] at h5
                    rw [← h4, ← h5] at hE
                    simp at hE
                  have hV : cV = 0 := by rw [← CV.out, cntV, if_neg ok]
                  have hE2 : cE = 1 := by rw [← CE.out, cntE, if_neg ok]
                  subst hV
                  subst hE2
                  clear hE ok
                  go_wp2_with fail
                  go_ret
                  exact ⟨rfl, by rw [← HW1.out]; repeat' (first | assumption | with_reducible exact Below.refl _ _ | with_reducible apply Below.drew | with_reducible apply below_drewN | with_reducible apply below_alloc | with_reducible refine below_set ?_ ?_ _ | (simp only [World.size_alloc, World.heap_drewN]; omega) | (simp; omega))⟩
set_option maxRecDepth 100000 in
set_option maxHeartbeats 3200000 in
theorem law_gate010 {th r n num den : Int} (w : World) (hA : ¬ (isDraw th = true ∧ isDraw r = true)) (hB : (0 ≤ n ∧ n ≤ 20)) (hC : ¬ (1 ≤ num ∧ num ≤ den ∧ den ≤ 1000000000000)) :
    Calls Try.prog 9 #[.int .i64 th, .int .i64 r, .int .i64 n, .int .i64 num, .int .i64 den] w fun e w' => e = .returned (.bool true) ∧ Below w.heap.size w w' := by
  have HA := hide hA
  have HB := hide hB
  have HC := hide hC
  clear hA hB hC
  obtain ⟨kB, hkB⟩ : ∃ b, keepB th r = b := ⟨_, rfl⟩
  obtain ⟨kE, hkE⟩ : ∃ b, keepE th r = b := ⟨_, rfl⟩
  obtain ⟨lV, hlV⟩ : ∃ b, levV n = b := ⟨_, rfl⟩
  obtain ⟨lE, hlE⟩ : ∃ b, levE n = b := ⟨_, rfl⟩
  obtain ⟨pV, hpV⟩ : ∃ b, partV num den = b := ⟨_, rfl⟩
  obtain ⟨pE, hpE⟩ : ∃ b, partE num den = b := ⟨_, rfl⟩
  obtain ⟨cV, hcV⟩ : ∃ b, cntV n th = b := ⟨_, rfl⟩
  obtain ⟨cE, hcE⟩ : ∃ b, cntE n th = b := ⟨_, rfl⟩
  have KB := hide hkB
  have KE := hide hkE
  have LV := hide hlV
  have LE := hide hlE
  have PV := hide hpV
  have PE := hide hpE
  have CV := hide hcV
  have CE := hide hcE
  clear hkB hkE hlV hlE hpV hpE hcV hcE
  go_enter Try.func9, Try.ntmps9
  go_wp2_with fail
  refine (keep_any KB.out KE.out _).mono ?_
  rintro e w' ⟨rfl, rfl⟩
  go_wp2_with fail
  refine (level_any LV.out LE.out _).mono ?_
  rintro e w' ⟨rfl, rfl⟩
  go_wp2_with fail
  refine (part_any PV.out PE.out _).mono ?_
  rintro e w' ⟨rfl, q1, rfl⟩
  go_wp2_with fail
  refine (countIs CV.out CE.out _).mono ?_
  rintro e w' ⟨rfl, q2, rfl⟩
  go_wp2_with fail
  refine (level_one _).mono ?_
  rintro e w' ⟨rfl, rfl⟩
  go_upto_region 8 with fail
  obtain ⟨w1, hw1⟩ : ∃ w1, w.drewN (q1 + q2) = w1 := ⟨_, rfl⟩
  have HW1 := hide hw1
  clear hw1
  obtain ⟨Ab, hAb⟩ : ∃ b, isDraw th = b := ⟨_, rfl⟩
  obtain ⟨Bb, hBb⟩ : ∃ b, isDraw r = b := ⟨_, rfl⟩
  have HAb := hide hAb
  have HBb := hide hBb
  clear hAb hBb
  rw [HW1.out]
  go_cut [62] (fun s62 wx => s62 = .bool (!(Ab && Bb)) ∧ w1 = wx)
  case first =>
    cases Ab
    · go_wp2_with fail
      refine (draw_is HAb.out _).mono ?_
      rintro e w' ⟨rfl, rfl⟩
      go_wp2_with fail
      go_meet
      exact ⟨rfl, by trivial⟩
    · go_wp2_with fail
      refine (draw_is HAb.out _).mono ?_
      rintro e w' ⟨rfl, rfl⟩
      go_wp2_with fail
      refine (draw_is HBb.out _).mono ?_
      rintro e w' ⟨rfl, rfl⟩
      cases Bb
      all_goals
        go_wp2_with fail
        go_meet
        exact ⟨rfl, by trivial⟩
  case rest =>
    obtain ⟨rfl, rfl⟩ := hcut
    have ok := HA.out
    · have hA : (!(Ab && Bb)) = true := by
        cases h1 : (Ab && Bb)
        · rfl
        · simp only [Bool.and_eq_true] at h1
          exact absurd ⟨HAb.out.trans h1.1, HBb.out.trans h1.2⟩ ok
      rw [hA]
      have hB2 : kB = false := by rw [← KB.out, keepB, if_neg ok]
      have hE2 : kE = 1 := by rw [← KE.out, keepE, if_neg ok]
      subst hB2
      subst hE2
      clear hA ok HAb HBb
      go_upto_region 13 with fail
      go_cut [82] (fun s82 wx => s82 = .bool (!decide (0 ≤ n ∧ n ≤ 20)) ∧ w1 = wx)
      case first =>
        have hcs : (n < 0 ∨ ¬ n < 0 ∧ 20 < n ∨ ¬ n < 0 ∧ ¬ 20 < n) := by omega
        rcases hcs with h | ⟨h, h2⟩ | ⟨h, h2⟩
        all_goals
          go_wp2_with fail
          go_meet
          exact ⟨by first | rfl | (congr 1; simp; omega), by trivial⟩
      case rest =>
        obtain ⟨rfl, rfl⟩ := hcut
        have ok := HB.out
        · have hE2 : lE = 0 := by rw [← LE.out, levE, if_pos ok]
          subst hE2
          have d1 : decide (0 ≤ n ∧ n ≤ 20) = true := decide_eq_true ok
          rw [d1]
          have OK := hide ok
          have tv : (lV != lV) = false := by simp
          clear ok d1
          go_wp2_with fail
          refine (rlevelIs OK.out LV.out _).mono ?_
          rintro e w' ⟨rfl, rfl⟩
          clear OK
          go_upto_region 18 with fail
          go_cut [111] (fun s111 wx => s111 = .bool (!decide (1 ≤ num ∧ num ≤ den ∧ den ≤ 1000000000000)) ∧ w1 = wx)
          case first =>
            have hcs : (den < 1 ∨ ¬ den < 1 ∧ 1000000000000 < den ∨ ¬ den < 1 ∧ ¬ 1000000000000 < den ∧ num < 1 ∨ ¬ den < 1 ∧ ¬ 1000000000000 < den ∧ ¬ num < 1 ∧ den < num ∨ ¬ den < 1 ∧ ¬ 1000000000000 < den ∧ ¬ num < 1 ∧ ¬ den < num) := by omega
            rcases hcs with h | ⟨h, h2⟩ | ⟨h, h2, h3⟩ | ⟨h, h2, h3, h4⟩ | ⟨h, h2, h3, h4⟩
            all_goals
              go_wp2_with fail
              go_meet
              exact ⟨by first | rfl | (congr 1; simp; omega), by trivial⟩
          case rest =>
            obtain ⟨rfl, rfl⟩ := hcut
            have ok := HC.out
            · have hE2 : pE = 1 := by rw [← PE.out, partE, if_neg ok]
              have hV2 : pV = 0 := by rw [← PV.out, partV, if_neg ok]
              subst hE2
              subst hV2
              have d1 : decide (1 ≤ num ∧ num ≤ den ∧ den ≤ 1000000000000) = false := decide_eq_false ok
              rw [d1]
              clear ok d1
              go_upto_region 23 with fail
              obtain ⟨Cb, hCb⟩ : ∃ b, inR n 0 1000000000000 = b := ⟨_, rfl⟩
              obtain ⟨Db, hDb⟩ : ∃ b, isDraw th = b := ⟨_, rfl⟩
              have HCb := hide hCb
              have HDb := hide hDb
              clear hCb hDb
              go_cut [134] (fun s134 wx => s134 = .bool (!(Cb && Db)) ∧ w1 = wx)
              case first =>
                cases Cb
                · go_wp2_with fail
                  refine (rcountIs HCb.out _).mono ?_
                  rintro e w' ⟨rfl, rfl⟩
                  go_wp2_with fail
                  go_meet
                  exact ⟨rfl, by trivial⟩
                · go_wp2_with fail
                  refine (rcountIs HCb.out _).mono ?_
                  rintro e w' ⟨rfl, rfl⟩
                  go_wp2_with fail
                  refine (draw_is HDb.out _).mono ?_
                  rintro e w' ⟨rfl, rfl⟩
                  cases Db
                  all_goals
                    go_wp2_with fail
                    go_meet
                    exact ⟨rfl, by trivial⟩
              case rest =>
                obtain ⟨rfl, rfl⟩ := hcut
                cases hE : (!(Cb && Db))
                · have ok : cntOk n th := by
                    simp only [Bool.not_eq_false', Bool.and_eq_true] at hE
                    have h1 := HCb.out
                    have h2 := HDb.out
                    rw [hE.1] at h1
                    rw [hE.2] at h2
                    have h3 : 0 ≤ n ∧ n ≤ 1000000000000 := by simpa [inR] using h1
                    exact ⟨h3.1, h3.2, h2⟩
                  have OK := hide ok
                  clear hE ok
                  by_cases hF : quoN n th ≤ 4611686018427387904
                  · have hK : (if quoN n th ≤ 4611686018427387904 then (quoN n th : Int) else -1) = (quoN n th : Int) := if_pos hF
                    have hV : cV = (quoN n th : Int) := by rw [← CV.out, cntV, if_pos OK.out, if_pos hF]
                    have hE2 : cE = 0 := by rw [← CE.out, cntE, if_pos OK.out, if_pos hF]
                    obtain ⟨F, hFn⟩ : ∃ F : Nat, quoN n th = F := ⟨_, rfl⟩
                    have HK := hide hK
                    rw [hFn] at hV HK
                    subst hV
                    subst hE2
                    have f0 : (0 : Int) ≤ (F : Int) := by omega
                    have t1 : ((F : Int) == (F : Int)) = true := by simp
                    have HFn := hide hFn
                    rw [← HFn.out] at HK
                    clear hK hF hFn
                    go_wp2_with fail
                    refine (rmanyIs OK.out (HK.out.trans (by rw [HFn.out])) _).mono ?_
                    rintro e w' ⟨rfl, rfl⟩
                    go_wp2_with fail
                    go_ret
                    exact ⟨rfl, by rw [← HW1.out]; repeat' (first | assumption | with_reducible exact Below.refl _ _ | with_reducible apply Below.drew | with_reducible apply below_drewN | with_reducible apply below_alloc | with_reducible refine below_set ?_ ?_ _ | (simp only [World.size_alloc, World.heap_drewN]; omega) | (simp; omega))⟩
                  · have hK : (if quoN n th ≤ 4611686018427387904 then (quoN n th : Int) else -1) = -1 := if_neg hF
                    have hV : cV = 0 := by rw [← CV.out, cntV, if_pos OK.out, if_neg hF]
                    have hE2 : cE = 2 := by rw [← CE.out, cntE, if_pos OK.out, if_neg hF]
                    have HK := hide hK
                    subst hV
                    subst hE2
                    clear hK hF
                    go_wp2_with fail
                    refine (rmanyIs OK.out HK.out _).mono ?_
                    rintro e w' ⟨rfl, rfl⟩
                    go_wp2_with fail
                    go_ret
                    exact ⟨rfl, by rw [← HW1.out]; repeat' (first | assumption | with_reducible exact Below.refl _ _ | with_reducible apply Below.drew | with_reducible apply below_drewN | with_reducible apply below_alloc | with_reducible refine below_set ?_ ?_ _ | (simp only [World.size_alloc, World.heap_drewN]; omega) | (simp; omega))⟩
                · have ok : ¬ cntOk n th := by
                    rintro ⟨h1, h2, h3⟩
                    have h4 := HCb.out
                    have h5 := HDb.out
                    rw [inR_yes ⟨h1, h2⟩] at h4
                    rw [h3] at h5
                    rw [← h4, ← h5] at hE
                    simp at hE
                  have hV : cV = 0 := by rw [← CV.out, cntV, if_neg ok]
                  have hE2 : cE = 1 := by rw [← CE.out, cntE, if_neg ok]
                  subst hV
                  subst hE2
                  clear hE ok
                  go_wp2_with fail
                  go_ret
                  exact ⟨rfl, by rw [← HW1.out]; repeat' (first | assumption | with_reducible exact Below.refl _ _ | with_reducible apply Below.drew | with_reducible apply below_drewN | with_reducible apply below_alloc | with_reducible refine below_set ?_ ?_ _ | (simp only [World.size_alloc, World.heap_drewN]; omega) | (simp; omega))⟩
set_option maxRecDepth 100000 in
set_option maxHeartbeats 3200000 in
theorem law_gate011 {th r n num den : Int} (w : World) (hA : ¬ (isDraw th = true ∧ isDraw r = true)) (hB : (0 ≤ n ∧ n ≤ 20)) (hC : (1 ≤ num ∧ num ≤ den ∧ den ≤ 1000000000000)) :
    Calls Try.prog 9 #[.int .i64 th, .int .i64 r, .int .i64 n, .int .i64 num, .int .i64 den] w fun e w' => e = .returned (.bool true) ∧ Below w.heap.size w w' := by
  have HA := hide hA
  have HB := hide hB
  have HC := hide hC
  clear hA hB hC
  obtain ⟨kB, hkB⟩ : ∃ b, keepB th r = b := ⟨_, rfl⟩
  obtain ⟨kE, hkE⟩ : ∃ b, keepE th r = b := ⟨_, rfl⟩
  obtain ⟨lV, hlV⟩ : ∃ b, levV n = b := ⟨_, rfl⟩
  obtain ⟨lE, hlE⟩ : ∃ b, levE n = b := ⟨_, rfl⟩
  obtain ⟨pV, hpV⟩ : ∃ b, partV num den = b := ⟨_, rfl⟩
  obtain ⟨pE, hpE⟩ : ∃ b, partE num den = b := ⟨_, rfl⟩
  obtain ⟨cV, hcV⟩ : ∃ b, cntV n th = b := ⟨_, rfl⟩
  obtain ⟨cE, hcE⟩ : ∃ b, cntE n th = b := ⟨_, rfl⟩
  have KB := hide hkB
  have KE := hide hkE
  have LV := hide hlV
  have LE := hide hlE
  have PV := hide hpV
  have PE := hide hpE
  have CV := hide hcV
  have CE := hide hcE
  clear hkB hkE hlV hlE hpV hpE hcV hcE
  go_enter Try.func9, Try.ntmps9
  go_wp2_with fail
  refine (keep_any KB.out KE.out _).mono ?_
  rintro e w' ⟨rfl, rfl⟩
  go_wp2_with fail
  refine (level_any LV.out LE.out _).mono ?_
  rintro e w' ⟨rfl, rfl⟩
  go_wp2_with fail
  refine (part_any PV.out PE.out _).mono ?_
  rintro e w' ⟨rfl, q1, rfl⟩
  go_wp2_with fail
  refine (countIs CV.out CE.out _).mono ?_
  rintro e w' ⟨rfl, q2, rfl⟩
  go_wp2_with fail
  refine (level_one _).mono ?_
  rintro e w' ⟨rfl, rfl⟩
  go_upto_region 8 with fail
  obtain ⟨w1, hw1⟩ : ∃ w1, w.drewN (q1 + q2) = w1 := ⟨_, rfl⟩
  have HW1 := hide hw1
  clear hw1
  obtain ⟨Ab, hAb⟩ : ∃ b, isDraw th = b := ⟨_, rfl⟩
  obtain ⟨Bb, hBb⟩ : ∃ b, isDraw r = b := ⟨_, rfl⟩
  have HAb := hide hAb
  have HBb := hide hBb
  clear hAb hBb
  rw [HW1.out]
  go_cut [62] (fun s62 wx => s62 = .bool (!(Ab && Bb)) ∧ w1 = wx)
  case first =>
    cases Ab
    · go_wp2_with fail
      refine (draw_is HAb.out _).mono ?_
      rintro e w' ⟨rfl, rfl⟩
      go_wp2_with fail
      go_meet
      exact ⟨rfl, by trivial⟩
    · go_wp2_with fail
      refine (draw_is HAb.out _).mono ?_
      rintro e w' ⟨rfl, rfl⟩
      go_wp2_with fail
      refine (draw_is HBb.out _).mono ?_
      rintro e w' ⟨rfl, rfl⟩
      cases Bb
      all_goals
        go_wp2_with fail
        go_meet
        exact ⟨rfl, by trivial⟩
  case rest =>
    obtain ⟨rfl, rfl⟩ := hcut
    have ok := HA.out
    · have hA : (!(Ab && Bb)) = true := by
        cases h1 : (Ab && Bb)
        · rfl
        · simp only [Bool.and_eq_true] at h1
          exact absurd ⟨HAb.out.trans h1.1, HBb.out.trans h1.2⟩ ok
      rw [hA]
      have hB2 : kB = false := by rw [← KB.out, keepB, if_neg ok]
      have hE2 : kE = 1 := by rw [← KE.out, keepE, if_neg ok]
      subst hB2
      subst hE2
      clear hA ok HAb HBb
      go_upto_region 13 with fail
      go_cut [82] (fun s82 wx => s82 = .bool (!decide (0 ≤ n ∧ n ≤ 20)) ∧ w1 = wx)
      case first =>
        have hcs : (n < 0 ∨ ¬ n < 0 ∧ 20 < n ∨ ¬ n < 0 ∧ ¬ 20 < n) := by omega
        rcases hcs with h | ⟨h, h2⟩ | ⟨h, h2⟩
        all_goals
          go_wp2_with fail
          go_meet
          exact ⟨by first | rfl | (congr 1; simp; omega), by trivial⟩
      case rest =>
        obtain ⟨rfl, rfl⟩ := hcut
        have ok := HB.out
        · have hE2 : lE = 0 := by rw [← LE.out, levE, if_pos ok]
          subst hE2
          have d1 : decide (0 ≤ n ∧ n ≤ 20) = true := decide_eq_true ok
          rw [d1]
          have OK := hide ok
          have tv : (lV != lV) = false := by simp
          clear ok d1
          go_wp2_with fail
          refine (rlevelIs OK.out LV.out _).mono ?_
          rintro e w' ⟨rfl, rfl⟩
          clear OK
          go_upto_region 18 with fail
          go_cut [111] (fun s111 wx => s111 = .bool (!decide (1 ≤ num ∧ num ≤ den ∧ den ≤ 1000000000000)) ∧ w1 = wx)
          case first =>
            have hcs : (den < 1 ∨ ¬ den < 1 ∧ 1000000000000 < den ∨ ¬ den < 1 ∧ ¬ 1000000000000 < den ∧ num < 1 ∨ ¬ den < 1 ∧ ¬ 1000000000000 < den ∧ ¬ num < 1 ∧ den < num ∨ ¬ den < 1 ∧ ¬ 1000000000000 < den ∧ ¬ num < 1 ∧ ¬ den < num) := by omega
            rcases hcs with h | ⟨h, h2⟩ | ⟨h, h2, h3⟩ | ⟨h, h2, h3, h4⟩ | ⟨h, h2, h3, h4⟩
            all_goals
              go_wp2_with fail
              go_meet
              exact ⟨by first | rfl | (congr 1; simp; omega), by trivial⟩
          case rest =>
            obtain ⟨rfl, rfl⟩ := hcut
            have ok := HC.out
            · have hE2 : pE = 0 := by rw [← PE.out, partE, if_pos ok]
              subst hE2
              have d1 : decide (1 ≤ num ∧ num ≤ den ∧ den ≤ 1000000000000) = true := decide_eq_true ok
              rw [d1]
              have OK := hide ok
              have tv : (pV != pV) = false := by simp
              clear ok d1
              go_wp2_with fail
              refine (rpartIs OK.out PV.out _).mono ?_
              rintro e w' ⟨rfl, rfl⟩
              go_upto_region 23 with fail
              obtain ⟨Cb, hCb⟩ : ∃ b, inR n 0 1000000000000 = b := ⟨_, rfl⟩
              obtain ⟨Db, hDb⟩ : ∃ b, isDraw th = b := ⟨_, rfl⟩
              have HCb := hide hCb
              have HDb := hide hDb
              clear hCb hDb
              go_cut [134] (fun s134 wx => s134 = .bool (!(Cb && Db)) ∧ w1 = wx)
              case first =>
                cases Cb
                · go_wp2_with fail
                  refine (rcountIs HCb.out _).mono ?_
                  rintro e w' ⟨rfl, rfl⟩
                  go_wp2_with fail
                  go_meet
                  exact ⟨rfl, by trivial⟩
                · go_wp2_with fail
                  refine (rcountIs HCb.out _).mono ?_
                  rintro e w' ⟨rfl, rfl⟩
                  go_wp2_with fail
                  refine (draw_is HDb.out _).mono ?_
                  rintro e w' ⟨rfl, rfl⟩
                  cases Db
                  all_goals
                    go_wp2_with fail
                    go_meet
                    exact ⟨rfl, by trivial⟩
              case rest =>
                obtain ⟨rfl, rfl⟩ := hcut
                cases hE : (!(Cb && Db))
                · have ok : cntOk n th := by
                    simp only [Bool.not_eq_false', Bool.and_eq_true] at hE
                    have h1 := HCb.out
                    have h2 := HDb.out
                    rw [hE.1] at h1
                    rw [hE.2] at h2
                    have h3 : 0 ≤ n ∧ n ≤ 1000000000000 := by simpa [inR] using h1
                    exact ⟨h3.1, h3.2, h2⟩
                  have OK := hide ok
                  clear hE ok
                  by_cases hF : quoN n th ≤ 4611686018427387904
                  · have hK : (if quoN n th ≤ 4611686018427387904 then (quoN n th : Int) else -1) = (quoN n th : Int) := if_pos hF
                    have hV : cV = (quoN n th : Int) := by rw [← CV.out, cntV, if_pos OK.out, if_pos hF]
                    have hE2 : cE = 0 := by rw [← CE.out, cntE, if_pos OK.out, if_pos hF]
                    obtain ⟨F, hFn⟩ : ∃ F : Nat, quoN n th = F := ⟨_, rfl⟩
                    have HK := hide hK
                    rw [hFn] at hV HK
                    subst hV
                    subst hE2
                    have f0 : (0 : Int) ≤ (F : Int) := by omega
                    have t1 : ((F : Int) == (F : Int)) = true := by simp
                    have HFn := hide hFn
                    rw [← HFn.out] at HK
                    clear hK hF hFn
                    go_wp2_with fail
                    refine (rmanyIs OK.out (HK.out.trans (by rw [HFn.out])) _).mono ?_
                    rintro e w' ⟨rfl, rfl⟩
                    go_wp2_with fail
                    go_ret
                    exact ⟨rfl, by rw [← HW1.out]; repeat' (first | assumption | with_reducible exact Below.refl _ _ | with_reducible apply Below.drew | with_reducible apply below_drewN | with_reducible apply below_alloc | with_reducible refine below_set ?_ ?_ _ | (simp only [World.size_alloc, World.heap_drewN]; omega) | (simp; omega))⟩
                  · have hK : (if quoN n th ≤ 4611686018427387904 then (quoN n th : Int) else -1) = -1 := if_neg hF
                    have hV : cV = 0 := by rw [← CV.out, cntV, if_pos OK.out, if_neg hF]
                    have hE2 : cE = 2 := by rw [← CE.out, cntE, if_pos OK.out, if_neg hF]
                    have HK := hide hK
                    subst hV
                    subst hE2
                    clear hK hF
                    go_wp2_with fail
                    refine (rmanyIs OK.out HK.out _).mono ?_
                    rintro e w' ⟨rfl, rfl⟩
                    go_wp2_with fail
                    go_ret
                    exact ⟨rfl, by rw [← HW1.out]; repeat' (first | assumption | with_reducible exact Below.refl _ _ | with_reducible apply Below.drew | with_reducible apply below_drewN | with_reducible apply below_alloc | with_reducible refine below_set ?_ ?_ _ | (simp only [World.size_alloc, World.heap_drewN]; omega) | (simp; omega))⟩
                · have ok : ¬ cntOk n th := by
                    rintro ⟨h1, h2, h3⟩
                    have h4 := HCb.out
                    have h5 := HDb.out
                    rw [inR_yes ⟨h1, h2⟩] at h4
                    rw [h3] at h5
                    rw [← h4, ← h5] at hE
                    simp at hE
                  have hV : cV = 0 := by rw [← CV.out, cntV, if_neg ok]
                  have hE2 : cE = 1 := by rw [← CE.out, cntE, if_neg ok]
                  subst hV
                  subst hE2
                  clear hE ok
                  go_wp2_with fail
                  go_ret
                  exact ⟨rfl, by rw [← HW1.out]; repeat' (first | assumption | with_reducible exact Below.refl _ _ | with_reducible apply Below.drew | with_reducible apply below_drewN | with_reducible apply below_alloc | with_reducible refine below_set ?_ ?_ _ | (simp only [World.size_alloc, World.heap_drewN]; omega) | (simp; omega))⟩
set_option maxRecDepth 100000 in
set_option maxHeartbeats 3200000 in
theorem law_gate100 {th r n num den : Int} (w : World) (hA : (isDraw th = true ∧ isDraw r = true)) (hB : ¬ (0 ≤ n ∧ n ≤ 20)) (hC : ¬ (1 ≤ num ∧ num ≤ den ∧ den ≤ 1000000000000)) :
    Calls Try.prog 9 #[.int .i64 th, .int .i64 r, .int .i64 n, .int .i64 num, .int .i64 den] w fun e w' => e = .returned (.bool true) ∧ Below w.heap.size w w' := by
  have HA := hide hA
  have HB := hide hB
  have HC := hide hC
  clear hA hB hC
  obtain ⟨kB, hkB⟩ : ∃ b, keepB th r = b := ⟨_, rfl⟩
  obtain ⟨kE, hkE⟩ : ∃ b, keepE th r = b := ⟨_, rfl⟩
  obtain ⟨lV, hlV⟩ : ∃ b, levV n = b := ⟨_, rfl⟩
  obtain ⟨lE, hlE⟩ : ∃ b, levE n = b := ⟨_, rfl⟩
  obtain ⟨pV, hpV⟩ : ∃ b, partV num den = b := ⟨_, rfl⟩
  obtain ⟨pE, hpE⟩ : ∃ b, partE num den = b := ⟨_, rfl⟩
  obtain ⟨cV, hcV⟩ : ∃ b, cntV n th = b := ⟨_, rfl⟩
  obtain ⟨cE, hcE⟩ : ∃ b, cntE n th = b := ⟨_, rfl⟩
  have KB := hide hkB
  have KE := hide hkE
  have LV := hide hlV
  have LE := hide hlE
  have PV := hide hpV
  have PE := hide hpE
  have CV := hide hcV
  have CE := hide hcE
  clear hkB hkE hlV hlE hpV hpE hcV hcE
  go_enter Try.func9, Try.ntmps9
  go_wp2_with fail
  refine (keep_any KB.out KE.out _).mono ?_
  rintro e w' ⟨rfl, rfl⟩
  go_wp2_with fail
  refine (level_any LV.out LE.out _).mono ?_
  rintro e w' ⟨rfl, rfl⟩
  go_wp2_with fail
  refine (part_any PV.out PE.out _).mono ?_
  rintro e w' ⟨rfl, q1, rfl⟩
  go_wp2_with fail
  refine (countIs CV.out CE.out _).mono ?_
  rintro e w' ⟨rfl, q2, rfl⟩
  go_wp2_with fail
  refine (level_one _).mono ?_
  rintro e w' ⟨rfl, rfl⟩
  go_upto_region 8 with fail
  obtain ⟨w1, hw1⟩ : ∃ w1, w.drewN (q1 + q2) = w1 := ⟨_, rfl⟩
  have HW1 := hide hw1
  clear hw1
  obtain ⟨Ab, hAb⟩ : ∃ b, isDraw th = b := ⟨_, rfl⟩
  obtain ⟨Bb, hBb⟩ : ∃ b, isDraw r = b := ⟨_, rfl⟩
  have HAb := hide hAb
  have HBb := hide hBb
  clear hAb hBb
  rw [HW1.out]
  go_cut [62] (fun s62 wx => s62 = .bool (!(Ab && Bb)) ∧ w1 = wx)
  case first =>
    cases Ab
    · go_wp2_with fail
      refine (draw_is HAb.out _).mono ?_
      rintro e w' ⟨rfl, rfl⟩
      go_wp2_with fail
      go_meet
      exact ⟨rfl, by trivial⟩
    · go_wp2_with fail
      refine (draw_is HAb.out _).mono ?_
      rintro e w' ⟨rfl, rfl⟩
      go_wp2_with fail
      refine (draw_is HBb.out _).mono ?_
      rintro e w' ⟨rfl, rfl⟩
      cases Bb
      all_goals
        go_wp2_with fail
        go_meet
        exact ⟨rfl, by trivial⟩
  case rest =>
    obtain ⟨rfl, rfl⟩ := hcut
    have ok := HA.out
    · have hA : (!(Ab && Bb)) = false := by rw [← HAb.out, ← HBb.out, ok.1, ok.2]; rfl
      rw [hA]
      have hB2 : kB = decide (th ≤ r) := by rw [← KB.out, keepB, if_pos ok]
      have hE2 : kE = 0 := by rw [← KE.out, keepE, if_pos ok]
      subst hB2
      subst hE2
      have tv : (decide (th ≤ r) != decide (th ≤ r)) = false := by simp
      clear hA ok HAb HBb
      go_upto_region 13 with fail
      go_cut [82] (fun s82 wx => s82 = .bool (!decide (0 ≤ n ∧ n ≤ 20)) ∧ w1 = wx)
      case first =>
        have hcs : (n < 0 ∨ ¬ n < 0 ∧ 20 < n ∨ ¬ n < 0 ∧ ¬ 20 < n) := by omega
        rcases hcs with h | ⟨h, h2⟩ | ⟨h, h2⟩
        all_goals
          go_wp2_with fail
          go_meet
          exact ⟨by first | rfl | (congr 1; simp; omega), by trivial⟩
      case rest =>
        obtain ⟨rfl, rfl⟩ := hcut
        have ok := HB.out
        · have hE2 : lE = 1 := by rw [← LE.out, levE, if_neg ok]
          have hV2 : lV = 0 := by rw [← LV.out, levV, if_neg ok]
          subst hE2
          subst hV2
          have d1 : decide (0 ≤ n ∧ n ≤ 20) = false := decide_eq_false ok
          rw [d1]
          clear ok d1
          go_upto_region 18 with fail
          go_cut [111] (fun s111 wx => s111 = .bool (!decide (1 ≤ num ∧ num ≤ den ∧ den ≤ 1000000000000)) ∧ w1 = wx)
          case first =>
            have hcs : (den < 1 ∨ ¬ den < 1 ∧ 1000000000000 < den ∨ ¬ den < 1 ∧ ¬ 1000000000000 < den ∧ num < 1 ∨ ¬ den < 1 ∧ ¬ 1000000000000 < den ∧ ¬ num < 1 ∧ den < num ∨ ¬ den < 1 ∧ ¬ 1000000000000 < den ∧ ¬ num < 1 ∧ ¬ den < num) := by omega
            rcases hcs with h | ⟨h, h2⟩ | ⟨h, h2, h3⟩ | ⟨h, h2, h3, h4⟩ | ⟨h, h2, h3, h4⟩
            all_goals
              go_wp2_with fail
              go_meet
              exact ⟨by first | rfl | (congr 1; simp; omega), by trivial⟩
          case rest =>
            obtain ⟨rfl, rfl⟩ := hcut
            have ok := HC.out
            · have hE2 : pE = 1 := by rw [← PE.out, partE, if_neg ok]
              have hV2 : pV = 0 := by rw [← PV.out, partV, if_neg ok]
              subst hE2
              subst hV2
              have d1 : decide (1 ≤ num ∧ num ≤ den ∧ den ≤ 1000000000000) = false := decide_eq_false ok
              rw [d1]
              clear ok d1
              go_upto_region 23 with fail
              obtain ⟨Cb, hCb⟩ : ∃ b, inR n 0 1000000000000 = b := ⟨_, rfl⟩
              obtain ⟨Db, hDb⟩ : ∃ b, isDraw th = b := ⟨_, rfl⟩
              have HCb := hide hCb
              have HDb := hide hDb
              clear hCb hDb
              go_cut [134] (fun s134 wx => s134 = .bool (!(Cb && Db)) ∧ w1 = wx)
              case first =>
                cases Cb
                · go_wp2_with fail
                  refine (rcountIs HCb.out _).mono ?_
                  rintro e w' ⟨rfl, rfl⟩
                  go_wp2_with fail
                  go_meet
                  exact ⟨rfl, by trivial⟩
                · go_wp2_with fail
                  refine (rcountIs HCb.out _).mono ?_
                  rintro e w' ⟨rfl, rfl⟩
                  go_wp2_with fail
                  refine (draw_is HDb.out _).mono ?_
                  rintro e w' ⟨rfl, rfl⟩
                  cases Db
                  all_goals
                    go_wp2_with fail
                    go_meet
                    exact ⟨rfl, by trivial⟩
              case rest =>
                obtain ⟨rfl, rfl⟩ := hcut
                cases hE : (!(Cb && Db))
                · have ok : cntOk n th := by
                    simp only [Bool.not_eq_false', Bool.and_eq_true] at hE
                    have h1 := HCb.out
                    have h2 := HDb.out
                    rw [hE.1] at h1
                    rw [hE.2] at h2
                    have h3 : 0 ≤ n ∧ n ≤ 1000000000000 := by simpa [inR] using h1
                    exact ⟨h3.1, h3.2, h2⟩
                  have OK := hide ok
                  clear hE ok
                  by_cases hF : quoN n th ≤ 4611686018427387904
                  · have hK : (if quoN n th ≤ 4611686018427387904 then (quoN n th : Int) else -1) = (quoN n th : Int) := if_pos hF
                    have hV : cV = (quoN n th : Int) := by rw [← CV.out, cntV, if_pos OK.out, if_pos hF]
                    have hE2 : cE = 0 := by rw [← CE.out, cntE, if_pos OK.out, if_pos hF]
                    obtain ⟨F, hFn⟩ : ∃ F : Nat, quoN n th = F := ⟨_, rfl⟩
                    have HK := hide hK
                    rw [hFn] at hV HK
                    subst hV
                    subst hE2
                    have f0 : (0 : Int) ≤ (F : Int) := by omega
                    have t1 : ((F : Int) == (F : Int)) = true := by simp
                    have HFn := hide hFn
                    rw [← HFn.out] at HK
                    clear hK hF hFn
                    go_wp2_with fail
                    refine (rmanyIs OK.out (HK.out.trans (by rw [HFn.out])) _).mono ?_
                    rintro e w' ⟨rfl, rfl⟩
                    go_wp2_with fail
                    go_ret
                    exact ⟨rfl, by rw [← HW1.out]; repeat' (first | assumption | with_reducible exact Below.refl _ _ | with_reducible apply Below.drew | with_reducible apply below_drewN | with_reducible apply below_alloc | with_reducible refine below_set ?_ ?_ _ | (simp only [World.size_alloc, World.heap_drewN]; omega) | (simp; omega))⟩
                  · have hK : (if quoN n th ≤ 4611686018427387904 then (quoN n th : Int) else -1) = -1 := if_neg hF
                    have hV : cV = 0 := by rw [← CV.out, cntV, if_pos OK.out, if_neg hF]
                    have hE2 : cE = 2 := by rw [← CE.out, cntE, if_pos OK.out, if_neg hF]
                    have HK := hide hK
                    subst hV
                    subst hE2
                    clear hK hF
                    go_wp2_with fail
                    refine (rmanyIs OK.out HK.out _).mono ?_
                    rintro e w' ⟨rfl, rfl⟩
                    go_wp2_with fail
                    go_ret
                    exact ⟨rfl, by rw [← HW1.out]; repeat' (first | assumption | with_reducible exact Below.refl _ _ | with_reducible apply Below.drew | with_reducible apply below_drewN | with_reducible apply below_alloc | with_reducible refine below_set ?_ ?_ _ | (simp only [World.size_alloc, World.heap_drewN]; omega) | (simp; omega))⟩
                · have ok : ¬ cntOk n th := by
                    rintro ⟨h1, h2, h3⟩
                    have h4 := HCb.out
                    have h5 := HDb.out
                    rw [inR_yes ⟨h1, h2⟩] at h4
                    rw [h3] at h5
                    rw [← h4, ← h5] at hE
                    simp at hE
                  have hV : cV = 0 := by rw [← CV.out, cntV, if_neg ok]
                  have hE2 : cE = 1 := by rw [← CE.out, cntE, if_neg ok]
                  subst hV
                  subst hE2
                  clear hE ok
                  go_wp2_with fail
                  go_ret
                  exact ⟨rfl, by rw [← HW1.out]; repeat' (first | assumption | with_reducible exact Below.refl _ _ | with_reducible apply Below.drew | with_reducible apply below_drewN | with_reducible apply below_alloc | with_reducible refine below_set ?_ ?_ _ | (simp only [World.size_alloc, World.heap_drewN]; omega) | (simp; omega))⟩
set_option maxRecDepth 100000 in
set_option maxHeartbeats 3200000 in
theorem law_gate101 {th r n num den : Int} (w : World) (hA : (isDraw th = true ∧ isDraw r = true)) (hB : ¬ (0 ≤ n ∧ n ≤ 20)) (hC : (1 ≤ num ∧ num ≤ den ∧ den ≤ 1000000000000)) :
    Calls Try.prog 9 #[.int .i64 th, .int .i64 r, .int .i64 n, .int .i64 num, .int .i64 den] w fun e w' => e = .returned (.bool true) ∧ Below w.heap.size w w' := by
  have HA := hide hA
  have HB := hide hB
  have HC := hide hC
  clear hA hB hC
  obtain ⟨kB, hkB⟩ : ∃ b, keepB th r = b := ⟨_, rfl⟩
  obtain ⟨kE, hkE⟩ : ∃ b, keepE th r = b := ⟨_, rfl⟩
  obtain ⟨lV, hlV⟩ : ∃ b, levV n = b := ⟨_, rfl⟩
  obtain ⟨lE, hlE⟩ : ∃ b, levE n = b := ⟨_, rfl⟩
  obtain ⟨pV, hpV⟩ : ∃ b, partV num den = b := ⟨_, rfl⟩
  obtain ⟨pE, hpE⟩ : ∃ b, partE num den = b := ⟨_, rfl⟩
  obtain ⟨cV, hcV⟩ : ∃ b, cntV n th = b := ⟨_, rfl⟩
  obtain ⟨cE, hcE⟩ : ∃ b, cntE n th = b := ⟨_, rfl⟩
  have KB := hide hkB
  have KE := hide hkE
  have LV := hide hlV
  have LE := hide hlE
  have PV := hide hpV
  have PE := hide hpE
  have CV := hide hcV
  have CE := hide hcE
  clear hkB hkE hlV hlE hpV hpE hcV hcE
  go_enter Try.func9, Try.ntmps9
  go_wp2_with fail
  refine (keep_any KB.out KE.out _).mono ?_
  rintro e w' ⟨rfl, rfl⟩
  go_wp2_with fail
  refine (level_any LV.out LE.out _).mono ?_
  rintro e w' ⟨rfl, rfl⟩
  go_wp2_with fail
  refine (part_any PV.out PE.out _).mono ?_
  rintro e w' ⟨rfl, q1, rfl⟩
  go_wp2_with fail
  refine (countIs CV.out CE.out _).mono ?_
  rintro e w' ⟨rfl, q2, rfl⟩
  go_wp2_with fail
  refine (level_one _).mono ?_
  rintro e w' ⟨rfl, rfl⟩
  go_upto_region 8 with fail
  obtain ⟨w1, hw1⟩ : ∃ w1, w.drewN (q1 + q2) = w1 := ⟨_, rfl⟩
  have HW1 := hide hw1
  clear hw1
  obtain ⟨Ab, hAb⟩ : ∃ b, isDraw th = b := ⟨_, rfl⟩
  obtain ⟨Bb, hBb⟩ : ∃ b, isDraw r = b := ⟨_, rfl⟩
  have HAb := hide hAb
  have HBb := hide hBb
  clear hAb hBb
  rw [HW1.out]
  go_cut [62] (fun s62 wx => s62 = .bool (!(Ab && Bb)) ∧ w1 = wx)
  case first =>
    cases Ab
    · go_wp2_with fail
      refine (draw_is HAb.out _).mono ?_
      rintro e w' ⟨rfl, rfl⟩
      go_wp2_with fail
      go_meet
      exact ⟨rfl, by trivial⟩
    · go_wp2_with fail
      refine (draw_is HAb.out _).mono ?_
      rintro e w' ⟨rfl, rfl⟩
      go_wp2_with fail
      refine (draw_is HBb.out _).mono ?_
      rintro e w' ⟨rfl, rfl⟩
      cases Bb
      all_goals
        go_wp2_with fail
        go_meet
        exact ⟨rfl, by trivial⟩
  case rest =>
    obtain ⟨rfl, rfl⟩ := hcut
    have ok := HA.out
    · have hA : (!(Ab && Bb)) = false := by rw [← HAb.out, ← HBb.out, ok.1, ok.2]; rfl
      rw [hA]
      have hB2 : kB = decide (th ≤ r) := by rw [← KB.out, keepB, if_pos ok]
      have hE2 : kE = 0 := by rw [← KE.out, keepE, if_pos ok]
      subst hB2
      subst hE2
      have tv : (decide (th ≤ r) != decide (th ≤ r)) = false := by simp
      clear hA ok HAb HBb
      go_upto_region 13 with fail
      go_cut [82] (fun s82 wx => s82 = .bool (!decide (0 ≤ n ∧ n ≤ 20)) ∧ w1 = wx)
      case first =>
        have hcs : (n < 0 ∨ ¬ n < 0 ∧ 20 < n ∨ ¬ n < 0 ∧ ¬ 20 < n) := by omega
        rcases hcs with h | ⟨h, h2⟩ | ⟨h, h2⟩
        all_goals
          go_wp2_with fail
          go_meet
          exact ⟨by first | rfl | (congr 1; simp; omega), by trivial⟩
      case rest =>
        obtain ⟨rfl, rfl⟩ := hcut
        have ok := HB.out
        · have hE2 : lE = 1 := by rw [← LE.out, levE, if_neg ok]
          have hV2 : lV = 0 := by rw [← LV.out, levV, if_neg ok]
          subst hE2
          subst hV2
          have d1 : decide (0 ≤ n ∧ n ≤ 20) = false := decide_eq_false ok
          rw [d1]
          clear ok d1
          go_upto_region 18 with fail
          go_cut [111] (fun s111 wx => s111 = .bool (!decide (1 ≤ num ∧ num ≤ den ∧ den ≤ 1000000000000)) ∧ w1 = wx)
          case first =>
            have hcs : (den < 1 ∨ ¬ den < 1 ∧ 1000000000000 < den ∨ ¬ den < 1 ∧ ¬ 1000000000000 < den ∧ num < 1 ∨ ¬ den < 1 ∧ ¬ 1000000000000 < den ∧ ¬ num < 1 ∧ den < num ∨ ¬ den < 1 ∧ ¬ 1000000000000 < den ∧ ¬ num < 1 ∧ ¬ den < num) := by omega
            rcases hcs with h | ⟨h, h2⟩ | ⟨h, h2, h3⟩ | ⟨h, h2, h3, h4⟩ | ⟨h, h2, h3, h4⟩
            all_goals
              go_wp2_with fail
              go_meet
              exact ⟨by first | rfl | (congr 1; simp; omega), by trivial⟩
          case rest =>
            obtain ⟨rfl, rfl⟩ := hcut
            have ok := HC.out
            · have hE2 : pE = 0 := by rw [← PE.out, partE, if_pos ok]
              subst hE2
              have d1 : decide (1 ≤ num ∧ num ≤ den ∧ den ≤ 1000000000000) = true := decide_eq_true ok
              rw [d1]
              have OK := hide ok
              have tv : (pV != pV) = false := by simp
              clear ok d1
              go_wp2_with fail
              refine (rpartIs OK.out PV.out _).mono ?_
              rintro e w' ⟨rfl, rfl⟩
              go_upto_region 23 with fail
              obtain ⟨Cb, hCb⟩ : ∃ b, inR n 0 1000000000000 = b := ⟨_, rfl⟩
              obtain ⟨Db, hDb⟩ : ∃ b, isDraw th = b := ⟨_, rfl⟩
              have HCb := hide hCb
              have HDb := hide hDb
              clear hCb hDb
              go_cut [134] (fun s134 wx => s134 = .bool (!(Cb && Db)) ∧ w1 = wx)
              case first =>
                cases Cb
                · go_wp2_with fail
                  refine (rcountIs HCb.out _).mono ?_
                  rintro e w' ⟨rfl, rfl⟩
                  go_wp2_with fail
                  go_meet
                  exact ⟨rfl, by trivial⟩
                · go_wp2_with fail
                  refine (rcountIs HCb.out _).mono ?_
                  rintro e w' ⟨rfl, rfl⟩
                  go_wp2_with fail
                  refine (draw_is HDb.out _).mono ?_
                  rintro e w' ⟨rfl, rfl⟩
                  cases Db
                  all_goals
                    go_wp2_with fail
                    go_meet
                    exact ⟨rfl, by trivial⟩
              case rest =>
                obtain ⟨rfl, rfl⟩ := hcut
                cases hE : (!(Cb && Db))
                · have ok : cntOk n th := by
                    simp only [Bool.not_eq_false', Bool.and_eq_true] at hE
                    have h1 := HCb.out
                    have h2 := HDb.out
                    rw [hE.1] at h1
                    rw [hE.2] at h2
                    have h3 : 0 ≤ n ∧ n ≤ 1000000000000 := by simpa [inR] using h1
                    exact ⟨h3.1, h3.2, h2⟩
                  have OK := hide ok
                  clear hE ok
                  by_cases hF : quoN n th ≤ 4611686018427387904
                  · have hK : (if quoN n th ≤ 4611686018427387904 then (quoN n th : Int) else -1) = (quoN n th : Int) := if_pos hF
                    have hV : cV = (quoN n th : Int) := by rw [← CV.out, cntV, if_pos OK.out, if_pos hF]
                    have hE2 : cE = 0 := by rw [← CE.out, cntE, if_pos OK.out, if_pos hF]
                    obtain ⟨F, hFn⟩ : ∃ F : Nat, quoN n th = F := ⟨_, rfl⟩
                    have HK := hide hK
                    rw [hFn] at hV HK
                    subst hV
                    subst hE2
                    have f0 : (0 : Int) ≤ (F : Int) := by omega
                    have t1 : ((F : Int) == (F : Int)) = true := by simp
                    have HFn := hide hFn
                    rw [← HFn.out] at HK
                    clear hK hF hFn
                    go_wp2_with fail
                    refine (rmanyIs OK.out (HK.out.trans (by rw [HFn.out])) _).mono ?_
                    rintro e w' ⟨rfl, rfl⟩
                    go_wp2_with fail
                    go_ret
                    exact ⟨rfl, by rw [← HW1.out]; repeat' (first | assumption | with_reducible exact Below.refl _ _ | with_reducible apply Below.drew | with_reducible apply below_drewN | with_reducible apply below_alloc | with_reducible refine below_set ?_ ?_ _ | (simp only [World.size_alloc, World.heap_drewN]; omega) | (simp; omega))⟩
                  · have hK : (if quoN n th ≤ 4611686018427387904 then (quoN n th : Int) else -1) = -1 := if_neg hF
                    have hV : cV = 0 := by rw [← CV.out, cntV, if_pos OK.out, if_neg hF]
                    have hE2 : cE = 2 := by rw [← CE.out, cntE, if_pos OK.out, if_neg hF]
                    have HK := hide hK
                    subst hV
                    subst hE2
                    clear hK hF
                    go_wp2_with fail
                    refine (rmanyIs OK.out HK.out _).mono ?_
                    rintro e w' ⟨rfl, rfl⟩
                    go_wp2_with fail
                    go_ret
                    exact ⟨rfl, by rw [← HW1.out]; repeat' (first | assumption | with_reducible exact Below.refl _ _ | with_reducible apply Below.drew | with_reducible apply below_drewN | with_reducible apply below_alloc | with_reducible refine below_set ?_ ?_ _ | (simp only [World.size_alloc, World.heap_drewN]; omega) | (simp; omega))⟩
                · have ok : ¬ cntOk n th := by
                    rintro ⟨h1, h2, h3⟩
                    have h4 := HCb.out
                    have h5 := HDb.out
                    rw [inR_yes ⟨h1, h2⟩] at h4
                    rw [h3] at h5
                    rw [← h4, ← h5] at hE
                    simp at hE
                  have hV : cV = 0 := by rw [← CV.out, cntV, if_neg ok]
                  have hE2 : cE = 1 := by rw [← CE.out, cntE, if_neg ok]
                  subst hV
                  subst hE2
                  clear hE ok
                  go_wp2_with fail
                  go_ret
                  exact ⟨rfl, by rw [← HW1.out]; repeat' (first | assumption | with_reducible exact Below.refl _ _ | with_reducible apply Below.drew | with_reducible apply below_drewN | with_reducible apply below_alloc | with_reducible refine below_set ?_ ?_ _ | (simp only [World.size_alloc, World.heap_drewN]; omega) | (simp; omega))⟩
set_option maxRecDepth 100000 in
set_option maxHeartbeats 3200000 in
theorem law_gate110 {th r n num den : Int} (w : World) (hA : (isDraw th = true ∧ isDraw r = true)) (hB : (0 ≤ n ∧ n ≤ 20)) (hC : ¬ (1 ≤ num ∧ num ≤ den ∧ den ≤ 1000000000000)) :
    Calls Try.prog 9 #[.int .i64 th, .int .i64 r, .int .i64 n, .int .i64 num, .int .i64 den] w fun e w' => e = .returned (.bool true) ∧ Below w.heap.size w w' := by
  have HA := hide hA
  have HB := hide hB
  have HC := hide hC
  clear hA hB hC
  obtain ⟨kB, hkB⟩ : ∃ b, keepB th r = b := ⟨_, rfl⟩
  obtain ⟨kE, hkE⟩ : ∃ b, keepE th r = b := ⟨_, rfl⟩
  obtain ⟨lV, hlV⟩ : ∃ b, levV n = b := ⟨_, rfl⟩
  obtain ⟨lE, hlE⟩ : ∃ b, levE n = b := ⟨_, rfl⟩
  obtain ⟨pV, hpV⟩ : ∃ b, partV num den = b := ⟨_, rfl⟩
  obtain ⟨pE, hpE⟩ : ∃ b, partE num den = b := ⟨_, rfl⟩
  obtain ⟨cV, hcV⟩ : ∃ b, cntV n th = b := ⟨_, rfl⟩
  obtain ⟨cE, hcE⟩ : ∃ b, cntE n th = b := ⟨_, rfl⟩
  have KB := hide hkB
  have KE := hide hkE
  have LV := hide hlV
  have LE := hide hlE
  have PV := hide hpV
  have PE := hide hpE
  have CV := hide hcV
  have CE := hide hcE
  clear hkB hkE hlV hlE hpV hpE hcV hcE
  go_enter Try.func9, Try.ntmps9
  go_wp2_with fail
  refine (keep_any KB.out KE.out _).mono ?_
  rintro e w' ⟨rfl, rfl⟩
  go_wp2_with fail
  refine (level_any LV.out LE.out _).mono ?_
  rintro e w' ⟨rfl, rfl⟩
  go_wp2_with fail
  refine (part_any PV.out PE.out _).mono ?_
  rintro e w' ⟨rfl, q1, rfl⟩
  go_wp2_with fail
  refine (countIs CV.out CE.out _).mono ?_
  rintro e w' ⟨rfl, q2, rfl⟩
  go_wp2_with fail
  refine (level_one _).mono ?_
  rintro e w' ⟨rfl, rfl⟩
  go_upto_region 8 with fail
  obtain ⟨w1, hw1⟩ : ∃ w1, w.drewN (q1 + q2) = w1 := ⟨_, rfl⟩
  have HW1 := hide hw1
  clear hw1
  obtain ⟨Ab, hAb⟩ : ∃ b, isDraw th = b := ⟨_, rfl⟩
  obtain ⟨Bb, hBb⟩ : ∃ b, isDraw r = b := ⟨_, rfl⟩
  have HAb := hide hAb
  have HBb := hide hBb
  clear hAb hBb
  rw [HW1.out]
  go_cut [62] (fun s62 wx => s62 = .bool (!(Ab && Bb)) ∧ w1 = wx)
  case first =>
    cases Ab
    · go_wp2_with fail
      refine (draw_is HAb.out _).mono ?_
      rintro e w' ⟨rfl, rfl⟩
      go_wp2_with fail
      go_meet
      exact ⟨rfl, by trivial⟩
    · go_wp2_with fail
      refine (draw_is HAb.out _).mono ?_
      rintro e w' ⟨rfl, rfl⟩
      go_wp2_with fail
      refine (draw_is HBb.out _).mono ?_
      rintro e w' ⟨rfl, rfl⟩
      cases Bb
      all_goals
        go_wp2_with fail
        go_meet
        exact ⟨rfl, by trivial⟩
  case rest =>
    obtain ⟨rfl, rfl⟩ := hcut
    have ok := HA.out
    · have hA : (!(Ab && Bb)) = false := by rw [← HAb.out, ← HBb.out, ok.1, ok.2]; rfl
      rw [hA]
      have hB2 : kB = decide (th ≤ r) := by rw [← KB.out, keepB, if_pos ok]
      have hE2 : kE = 0 := by rw [← KE.out, keepE, if_pos ok]
      subst hB2
      subst hE2
      have tv : (decide (th ≤ r) != decide (th ≤ r)) = false := by simp
      clear hA ok HAb HBb
      go_upto_region 13 with fail
      go_cut [82] (fun s82 wx => s82 = .bool (!decide (0 ≤ n ∧ n ≤ 20)) ∧ w1 = wx)
      case first =>
        have hcs : (n < 0 ∨ ¬ n < 0 ∧ 20 < n ∨ ¬ n < 0 ∧ ¬ 20 < n) := by omega
        rcases hcs with h | ⟨h, h2⟩ | ⟨h, h2⟩
        all_goals
          go_wp2_with fail
          go_meet
          exact ⟨by first | rfl | (congr 1; simp; omega), by trivial⟩
      case rest =>
        obtain ⟨rfl, rfl⟩ := hcut
        have ok := HB.out
        · have hE2 : lE = 0 := by rw [← LE.out, levE, if_pos ok]
          subst hE2
          have d1 : decide (0 ≤ n ∧ n ≤ 20) = true := decide_eq_true ok
          rw [d1]
          have OK := hide ok
          have tv : (lV != lV) = false := by simp
          clear ok d1
          go_wp2_with fail
          refine (rlevelIs OK.out LV.out _).mono ?_
          rintro e w' ⟨rfl, rfl⟩
          clear OK
          go_upto_region 18 with fail
          go_cut [111] (fun s111 wx => s111 = .bool (!decide (1 ≤ num ∧ num ≤ den ∧ den ≤ 1000000000000)) ∧ w1 = wx)
          case first =>
            have hcs : (den < 1 ∨ ¬ den < 1 ∧ 1000000000000 < den ∨ ¬ den < 1 ∧ ¬ 1000000000000 < den ∧ num < 1 ∨ ¬ den < 1 ∧ ¬ 1000000000000 < den ∧ ¬ num < 1 ∧ den < num ∨ ¬ den < 1 ∧ ¬ 1000000000000 < den ∧ ¬ num < 1 ∧ ¬ den < num) := by omega
            rcases hcs with h | ⟨h, h2⟩ | ⟨h, h2, h3⟩ | ⟨h, h2, h3, h4⟩ | ⟨h, h2, h3, h4⟩
            all_goals
              go_wp2_with fail
              go_meet
              exact ⟨by first | rfl | (congr 1; simp; omega), by trivial⟩
          case rest =>
            obtain ⟨rfl, rfl⟩ := hcut
            have ok := HC.out
            · have hE2 : pE = 1 := by rw [← PE.out, partE, if_neg ok]
              have hV2 : pV = 0 := by rw [← PV.out, partV, if_neg ok]
              subst hE2
              subst hV2
              have d1 : decide (1 ≤ num ∧ num ≤ den ∧ den ≤ 1000000000000) = false := decide_eq_false ok
              rw [d1]
              clear ok d1
              go_upto_region 23 with fail
              obtain ⟨Cb, hCb⟩ : ∃ b, inR n 0 1000000000000 = b := ⟨_, rfl⟩
              obtain ⟨Db, hDb⟩ : ∃ b, isDraw th = b := ⟨_, rfl⟩
              have HCb := hide hCb
              have HDb := hide hDb
              clear hCb hDb
              go_cut [134] (fun s134 wx => s134 = .bool (!(Cb && Db)) ∧ w1 = wx)
              case first =>
                cases Cb
                · go_wp2_with fail
                  refine (rcountIs HCb.out _).mono ?_
                  rintro e w' ⟨rfl, rfl⟩
                  go_wp2_with fail
                  go_meet
                  exact ⟨rfl, by trivial⟩
                · go_wp2_with fail
                  refine (rcountIs HCb.out _).mono ?_
                  rintro e w' ⟨rfl, rfl⟩
                  go_wp2_with fail
                  refine (draw_is HDb.out _).mono ?_
                  rintro e w' ⟨rfl, rfl⟩
                  cases Db
                  all_goals
                    go_wp2_with fail
                    go_meet
                    exact ⟨rfl, by trivial⟩
              case rest =>
                obtain ⟨rfl, rfl⟩ := hcut
                cases hE : (!(Cb && Db))
                · have ok : cntOk n th := by
                    simp only [Bool.not_eq_false', Bool.and_eq_true] at hE
                    have h1 := HCb.out
                    have h2 := HDb.out
                    rw [hE.1] at h1
                    rw [hE.2] at h2
                    have h3 : 0 ≤ n ∧ n ≤ 1000000000000 := by simpa [inR] using h1
                    exact ⟨h3.1, h3.2, h2⟩
                  have OK := hide ok
                  clear hE ok
                  by_cases hF : quoN n th ≤ 4611686018427387904
                  · have hK : (if quoN n th ≤ 4611686018427387904 then (quoN n th : Int) else -1) = (quoN n th : Int) := if_pos hF
                    have hV : cV = (quoN n th : Int) := by rw [← CV.out, cntV, if_pos OK.out, if_pos hF]
                    have hE2 : cE = 0 := by rw [← CE.out, cntE, if_pos OK.out, if_pos hF]
                    obtain ⟨F, hFn⟩ : ∃ F : Nat, quoN n th = F := ⟨_, rfl⟩
                    have HK := hide hK
                    rw [hFn] at hV HK
                    subst hV
                    subst hE2
                    have f0 : (0 : Int) ≤ (F : Int) := by omega
                    have t1 : ((F : Int) == (F : Int)) = true := by simp
                    have HFn := hide hFn
                    rw [← HFn.out] at HK
                    clear hK hF hFn
                    go_wp2_with fail
                    refine (rmanyIs OK.out (HK.out.trans (by rw [HFn.out])) _).mono ?_
                    rintro e w' ⟨rfl, rfl⟩
                    go_wp2_with fail
                    go_ret
                    exact ⟨rfl, by rw [← HW1.out]; repeat' (first | assumption | with_reducible exact Below.refl _ _ | with_reducible apply Below.drew | with_reducible apply below_drewN | with_reducible apply below_alloc | with_reducible refine below_set ?_ ?_ _ | (simp only [World.size_alloc, World.heap_drewN]; omega) | (simp; omega))⟩
                  · have hK : (if quoN n th ≤ 4611686018427387904 then (quoN n th : Int) else -1) = -1 := if_neg hF
                    have hV : cV = 0 := by rw [← CV.out, cntV, if_pos OK.out, if_neg hF]
                    have hE2 : cE = 2 := by rw [← CE.out, cntE, if_pos OK.out, if_neg hF]
                    have HK := hide hK
                    subst hV
                    subst hE2
                    clear hK hF
                    go_wp2_with fail
                    refine (rmanyIs OK.out HK.out _).mono ?_
                    rintro e w' ⟨rfl, rfl⟩
                    go_wp2_with fail
                    go_ret
                    exact ⟨rfl, by rw [← HW1.out]; repeat' (first | assumption | with_reducible exact Below.refl _ _ | with_reducible apply Below.drew | with_reducible apply below_drewN | with_reducible apply below_alloc | with_reducible refine below_set ?_ ?_ _ | (simp only [World.size_alloc, World.heap_drewN]; omega) | (simp; omega))⟩
                · have ok : ¬ cntOk n th := by
                    rintro ⟨h1, h2, h3⟩
                    have h4 := HCb.out
                    have h5 := HDb.out
                    rw [inR_yes ⟨h1, h2⟩] at h4
                    rw [h3] at h5
                    rw [← h4, ← h5] at hE
                    simp at hE
                  have hV : cV = 0 := by rw [← CV.out, cntV, if_neg ok]
                  have hE2 : cE = 1 := by rw [← CE.out, cntE, if_neg ok]
                  subst hV
                  subst hE2
                  clear hE ok
                  go_wp2_with fail
                  go_ret
                  exact ⟨rfl, by rw [← HW1.out]; repeat' (first | assumption | with_reducible exact Below.refl _ _ | with_reducible apply Below.drew | with_reducible apply below_drewN | with_reducible apply below_alloc | with_reducible refine below_set ?_ ?_ _ | (simp only [World.size_alloc, World.heap_drewN]; omega) | (simp; omega))⟩
set_option maxRecDepth 100000 in
set_option maxHeartbeats 3200000 in
theorem law_gate111 {th r n num den : Int} (w : World) (hA : (isDraw th = true ∧ isDraw r = true)) (hB : (0 ≤ n ∧ n ≤ 20)) (hC : (1 ≤ num ∧ num ≤ den ∧ den ≤ 1000000000000)) :
    Calls Try.prog 9 #[.int .i64 th, .int .i64 r, .int .i64 n, .int .i64 num, .int .i64 den] w fun e w' => e = .returned (.bool true) ∧ Below w.heap.size w w' := by
  have HA := hide hA
  have HB := hide hB
  have HC := hide hC
  clear hA hB hC
  obtain ⟨kB, hkB⟩ : ∃ b, keepB th r = b := ⟨_, rfl⟩
  obtain ⟨kE, hkE⟩ : ∃ b, keepE th r = b := ⟨_, rfl⟩
  obtain ⟨lV, hlV⟩ : ∃ b, levV n = b := ⟨_, rfl⟩
  obtain ⟨lE, hlE⟩ : ∃ b, levE n = b := ⟨_, rfl⟩
  obtain ⟨pV, hpV⟩ : ∃ b, partV num den = b := ⟨_, rfl⟩
  obtain ⟨pE, hpE⟩ : ∃ b, partE num den = b := ⟨_, rfl⟩
  obtain ⟨cV, hcV⟩ : ∃ b, cntV n th = b := ⟨_, rfl⟩
  obtain ⟨cE, hcE⟩ : ∃ b, cntE n th = b := ⟨_, rfl⟩
  have KB := hide hkB
  have KE := hide hkE
  have LV := hide hlV
  have LE := hide hlE
  have PV := hide hpV
  have PE := hide hpE
  have CV := hide hcV
  have CE := hide hcE
  clear hkB hkE hlV hlE hpV hpE hcV hcE
  go_enter Try.func9, Try.ntmps9
  go_wp2_with fail
  refine (keep_any KB.out KE.out _).mono ?_
  rintro e w' ⟨rfl, rfl⟩
  go_wp2_with fail
  refine (level_any LV.out LE.out _).mono ?_
  rintro e w' ⟨rfl, rfl⟩
  go_wp2_with fail
  refine (part_any PV.out PE.out _).mono ?_
  rintro e w' ⟨rfl, q1, rfl⟩
  go_wp2_with fail
  refine (countIs CV.out CE.out _).mono ?_
  rintro e w' ⟨rfl, q2, rfl⟩
  go_wp2_with fail
  refine (level_one _).mono ?_
  rintro e w' ⟨rfl, rfl⟩
  go_upto_region 8 with fail
  obtain ⟨w1, hw1⟩ : ∃ w1, w.drewN (q1 + q2) = w1 := ⟨_, rfl⟩
  have HW1 := hide hw1
  clear hw1
  obtain ⟨Ab, hAb⟩ : ∃ b, isDraw th = b := ⟨_, rfl⟩
  obtain ⟨Bb, hBb⟩ : ∃ b, isDraw r = b := ⟨_, rfl⟩
  have HAb := hide hAb
  have HBb := hide hBb
  clear hAb hBb
  rw [HW1.out]
  go_cut [62] (fun s62 wx => s62 = .bool (!(Ab && Bb)) ∧ w1 = wx)
  case first =>
    cases Ab
    · go_wp2_with fail
      refine (draw_is HAb.out _).mono ?_
      rintro e w' ⟨rfl, rfl⟩
      go_wp2_with fail
      go_meet
      exact ⟨rfl, by trivial⟩
    · go_wp2_with fail
      refine (draw_is HAb.out _).mono ?_
      rintro e w' ⟨rfl, rfl⟩
      go_wp2_with fail
      refine (draw_is HBb.out _).mono ?_
      rintro e w' ⟨rfl, rfl⟩
      cases Bb
      all_goals
        go_wp2_with fail
        go_meet
        exact ⟨rfl, by trivial⟩
  case rest =>
    obtain ⟨rfl, rfl⟩ := hcut
    have ok := HA.out
    · have hA : (!(Ab && Bb)) = false := by rw [← HAb.out, ← HBb.out, ok.1, ok.2]; rfl
      rw [hA]
      have hB2 : kB = decide (th ≤ r) := by rw [← KB.out, keepB, if_pos ok]
      have hE2 : kE = 0 := by rw [← KE.out, keepE, if_pos ok]
      subst hB2
      subst hE2
      have tv : (decide (th ≤ r) != decide (th ≤ r)) = false := by simp
      clear hA ok HAb HBb
      go_upto_region 13 with fail
      go_cut [82] (fun s82 wx => s82 = .bool (!decide (0 ≤ n ∧ n ≤ 20)) ∧ w1 = wx)
      case first =>
        have hcs : (n < 0 ∨ ¬ n < 0 ∧ 20 < n ∨ ¬ n < 0 ∧ ¬ 20 < n) := by omega
        rcases hcs with h | ⟨h, h2⟩ | ⟨h, h2⟩
        all_goals
          go_wp2_with fail
          go_meet
          exact ⟨by first | rfl | (congr 1; simp; omega), by trivial⟩
      case rest =>
        obtain ⟨rfl, rfl⟩ := hcut
        have ok := HB.out
        · have hE2 : lE = 0 := by rw [← LE.out, levE, if_pos ok]
          subst hE2
          have d1 : decide (0 ≤ n ∧ n ≤ 20) = true := decide_eq_true ok
          rw [d1]
          have OK := hide ok
          have tv : (lV != lV) = false := by simp
          clear ok d1
          go_wp2_with fail
          refine (rlevelIs OK.out LV.out _).mono ?_
          rintro e w' ⟨rfl, rfl⟩
          clear OK
          go_upto_region 18 with fail
          go_cut [111] (fun s111 wx => s111 = .bool (!decide (1 ≤ num ∧ num ≤ den ∧ den ≤ 1000000000000)) ∧ w1 = wx)
          case first =>
            have hcs : (den < 1 ∨ ¬ den < 1 ∧ 1000000000000 < den ∨ ¬ den < 1 ∧ ¬ 1000000000000 < den ∧ num < 1 ∨ ¬ den < 1 ∧ ¬ 1000000000000 < den ∧ ¬ num < 1 ∧ den < num ∨ ¬ den < 1 ∧ ¬ 1000000000000 < den ∧ ¬ num < 1 ∧ ¬ den < num) := by omega
            rcases hcs with h | ⟨h, h2⟩ | ⟨h, h2, h3⟩ | ⟨h, h2, h3, h4⟩ | ⟨h, h2, h3, h4⟩
            all_goals
              go_wp2_with fail
              go_meet
              exact ⟨by first | rfl | (congr 1; simp; omega), by trivial⟩
          case rest =>
            obtain ⟨rfl, rfl⟩ := hcut
            have ok := HC.out
            · have hE2 : pE = 0 := by rw [← PE.out, partE, if_pos ok]
              subst hE2
              have d1 : decide (1 ≤ num ∧ num ≤ den ∧ den ≤ 1000000000000) = true := decide_eq_true ok
              rw [d1]
              have OK := hide ok
              have tv : (pV != pV) = false := by simp
              clear ok d1
              go_wp2_with fail
              refine (rpartIs OK.out PV.out _).mono ?_
              rintro e w' ⟨rfl, rfl⟩
              go_upto_region 23 with fail
              obtain ⟨Cb, hCb⟩ : ∃ b, inR n 0 1000000000000 = b := ⟨_, rfl⟩
              obtain ⟨Db, hDb⟩ : ∃ b, isDraw th = b := ⟨_, rfl⟩
              have HCb := hide hCb
              have HDb := hide hDb
              clear hCb hDb
              go_cut [134] (fun s134 wx => s134 = .bool (!(Cb && Db)) ∧ w1 = wx)
              case first =>
                cases Cb
                · go_wp2_with fail
                  refine (rcountIs HCb.out _).mono ?_
                  rintro e w' ⟨rfl, rfl⟩
                  go_wp2_with fail
                  go_meet
                  exact ⟨rfl, by trivial⟩
                · go_wp2_with fail
                  refine (rcountIs HCb.out _).mono ?_
                  rintro e w' ⟨rfl, rfl⟩
                  go_wp2_with fail
                  refine (draw_is HDb.out _).mono ?_
                  rintro e w' ⟨rfl, rfl⟩
                  cases Db
                  all_goals
                    go_wp2_with fail
                    go_meet
                    exact ⟨rfl, by trivial⟩
              case rest =>
                obtain ⟨rfl, rfl⟩ := hcut
                cases hE : (!(Cb && Db))
                · have ok : cntOk n th := by
                    simp only [Bool.not_eq_false', Bool.and_eq_true] at hE
                    have h1 := HCb.out
                    have h2 := HDb.out
                    rw [hE.1] at h1
                    rw [hE.2] at h2
                    have h3 : 0 ≤ n ∧ n ≤ 1000000000000 := by simpa [inR] using h1
                    exact ⟨h3.1, h3.2, h2⟩
                  have OK := hide ok
                  clear hE ok
                  by_cases hF : quoN n th ≤ 4611686018427387904
                  · have hK : (if quoN n th ≤ 4611686018427387904 then (quoN n th : Int) else -1) = (quoN n th : Int) := if_pos hF
                    have hV : cV = (quoN n th : Int) := by rw [← CV.out, cntV, if_pos OK.out, if_pos hF]
                    have hE2 : cE = 0 := by rw [← CE.out, cntE, if_pos OK.out, if_pos hF]
                    obtain ⟨F, hFn⟩ : ∃ F : Nat, quoN n th = F := ⟨_, rfl⟩
                    have HK := hide hK
                    rw [hFn] at hV HK
                    subst hV
                    subst hE2
                    have f0 : (0 : Int) ≤ (F : Int) := by omega
                    have t1 : ((F : Int) == (F : Int)) = true := by simp
                    have HFn := hide hFn
                    rw [← HFn.out] at HK
                    clear hK hF hFn
                    go_wp2_with fail
                    refine (rmanyIs OK.out (HK.out.trans (by rw [HFn.out])) _).mono ?_
                    rintro e w' ⟨rfl, rfl⟩
                    go_wp2_with fail
                    go_ret
                    exact ⟨rfl, by rw [← HW1.out]; repeat' (first | assumption | with_reducible exact Below.refl _ _ | with_reducible apply Below.drew | with_reducible apply below_drewN | with_reducible apply below_alloc | with_reducible refine below_set ?_ ?_ _ | (simp only [World.size_alloc, World.heap_drewN]; omega) | (simp; omega))⟩
                  · have hK : (if quoN n th ≤ 4611686018427387904 then (quoN n th : Int) else -1) = -1 := if_neg hF
                    have hV : cV = 0 := by rw [← CV.out, cntV, if_pos OK.out, if_neg hF]
                    have hE2 : cE = 2 := by rw [← CE.out, cntE, if_pos OK.out, if_neg hF]
                    have HK := hide hK
                    subst hV
                    subst hE2
                    clear hK hF
                    go_wp2_with fail
                    refine (rmanyIs OK.out HK.out _).mono ?_
                    rintro e w' ⟨rfl, rfl⟩
                    go_wp2_with fail
                    go_ret
                    exact ⟨rfl, by rw [← HW1.out]; repeat' (first | assumption | with_reducible exact Below.refl _ _ | with_reducible apply Below.drew | with_reducible apply below_drewN | with_reducible apply below_alloc | with_reducible refine below_set ?_ ?_ _ | (simp only [World.size_alloc, World.heap_drewN]; omega) | (simp; omega))⟩
                · have ok : ¬ cntOk n th := by
                    rintro ⟨h1, h2, h3⟩
                    have h4 := HCb.out
                    have h5 := HDb.out
                    rw [inR_yes ⟨h1, h2⟩] at h4
                    rw [h3] at h5
                    rw [← h4, ← h5] at hE
                    simp at hE
                  have hV : cV = 0 := by rw [← CV.out, cntV, if_neg ok]
                  have hE2 : cE = 1 := by rw [← CE.out, cntE, if_neg ok]
                  subst hV
                  subst hE2
                  clear hE ok
                  go_wp2_with fail
                  go_ret
                  exact ⟨rfl, by rw [← HW1.out]; repeat' (first | assumption | with_reducible exact Below.refl _ _ | with_reducible apply Below.drew | with_reducible apply below_drewN | with_reducible apply below_alloc | with_reducible refine below_set ?_ ?_ _ | (simp only [World.size_alloc, World.heap_drewN]; omega) | (simp; omega))⟩
theorem law_gate (th r n num den : Int) (w : World) :
    Calls Try.prog 9 #[.int .i64 th, .int .i64 r, .int .i64 n, .int .i64 num, .int .i64 den] w fun e w' => e = .returned (.bool true) ∧ Below w.heap.size w w' := by
  by_cases hA : (isDraw th = true ∧ isDraw r = true) <;> by_cases hB : (0 ≤ n ∧ n ≤ 20) <;> by_cases hC : (1 ≤ num ∧ num ≤ den ∧ den ≤ 1000000000000)
  · exact law_gate111 w hA hB hC
  · exact law_gate110 w hA hB hC
  · exact law_gate101 w hA hB hC
  · exact law_gate100 w hA hB hC
  · exact law_gate011 w hA hB hC
  · exact law_gate010 w hA hB hC
  · exact law_gate001 w hA hB hC
  · exact law_gate000 w hA hB hC
end Go.Proofs.Ytjmkejindmgckaa
