/-
  culref.Rows, table.place, culref.Place, culref.SameTable of tables that read the same: the walks. Conditions: the rows read as lists of numbers; the width is 1 to 32.
-/
import Derived.Test.YtjmkejindmgckaaTable
namespace Go.Proofs.Ytjmkejindmgckaa
open Go.RowKit

theorem isCnt_inR (x : Int) : inR x 0 1000000000000 = isCnt x := rfl
set_option maxHeartbeats 400000 in
theorem rowsFn (x : Int) (w : World) : Calls Try.prog 81 #[.int .i64 x] w fun e w' => e = .returned (.bool (!isCnt x)) ∧ w = w' := by
  cases hx : inR x 0 1000000000000
  · have HX := hide hx
    have HC := hide (count_any x)
    rw [hx] at HC
    clear hx
    go_enter Try.func81, Try.ntmps81
    go_wp2_with fail
    refine (HC.out _).mono ?_
    rintro e w' ⟨rfl, rfl⟩
    go_wp2_with fail
    go_ret
    exact ⟨by rw [← isCnt_inR, HX.out]; rfl, rfl⟩
  · have HX := hide hx
    have HC := hide (count_any x)
    rw [hx] at HC
    clear hx
    go_enter Try.func81, Try.ntmps81
    go_wp2_with fail
    refine (HC.out _).mono ?_
    rintro e w' ⟨rfl, rfl⟩
    go_wp2_with fail
    go_ret
    exact ⟨by rw [← isCnt_inR, HX.out]; rfl, rfl⟩
theorem rowsFn_does : Answers 81 (fun x => !isCnt x) := ⟨enters_of Try.func81 (by kernel_rfl) rfl, rowsFn⟩
theorem none_cnts (zs : List Int) (k : Nat) : noneTo (fun x => !isCnt x) zs k = cntsTo zs k := by simp [noneTo, cntsTo]
section
variable {W : Int} {A : Option Addr} {n c : Nat} {os : List Row} {w : World}
set_option maxRecDepth 20000 in
set_option maxHeartbeats 1600000 in
theorem rrows_any (h : Ss w A n c os) :
    Calls Try.prog 42 #[.agg #[.int .i64 W, .slice A n c]] w fun e w' => e = .returned (.int .i64 (tabErr W n (rows os))) ∧ Below w.heap.size w w' := by
  have hm := h.s.len_max
  by_cases g1 : 1 ≤ W ∧ W ≤ 32
  case neg =>
    have E := hide (show tabErr W n (rows os) = 1 from if_pos (by unfold tabBad; omega))
    have t1 := inR_no g1
    clear g1
    go_enter Try.func42, Try.ntmps42
    go_wp2_with (first | (go_at_call 70; refine (within_any _ _ _ _).mono ?_; rintro e w' ⟨rfl, rfl⟩))
    go_ret
    exact ⟨by rw [E.out]; rfl, by repeat' (first | assumption | with_reducible exact Below.refl _ _ | with_reducible apply Below.drew | with_reducible apply below_drewN | with_reducible apply below_alloc | with_reducible refine below_set ?_ ?_ _ | (simp only [World.size_alloc, World.heap_drewN]; omega) | (simp; omega))⟩
  have t1 := inR_yes g1
  by_cases g2 : 1 ≤ (n : Int) ∧ (n : Int) ≤ 4
  case neg =>
    have E := hide (show tabErr W n (rows os) = 1 from if_pos (by unfold tabBad; omega))
    have t2 := inR_no g2
    clear g1 g2
    go_enter Try.func42, Try.ntmps42
    go_wp2_with (first | (go_at_call 70; refine (within_any _ _ _ _).mono ?_; rintro e w' ⟨rfl, rfl⟩))
    go_ret
    exact ⟨by rw [E.out]; rfl, by repeat' (first | assumption | with_reducible exact Below.refl _ _ | with_reducible apply Below.drew | with_reducible apply below_drewN | with_reducible apply below_alloc | with_reducible refine below_set ?_ ?_ _ | (simp only [World.size_alloc, World.heap_drewN]; omega) | (simp; omega))⟩
  have t2 := inR_yes g2
  have HE := hide (show tabErr W n (rows os) = faultTo (fun i => rowErr W ((rows os).getD i [])) n from if_neg (by unfold tabBad; omega))
  have n4 : n ≤ 4 := by omega
  clear g1 g2
  have b0 := (Blk.new w 65 #[.int .i64 W, .slice A n c])
  have hb0 : Below w.heap.size w (w.alloc (.cells #[.int .i64 W, .slice A n c] 65)) := (Below.refl _ _).alloc (Nat.le_refl _) _
  have HB0 := hide b0
  have HBB := hide hb0
  clear b0 hb0
  go_enter Try.func42, Try.ntmps42
  go_wp2_with (first | (go_at_call 70; refine (within_any _ _ _ _).mono ?_; rintro e w' ⟨rfl, rfl⟩))
  obtain ⟨w0, hw0⟩ : ∃ w0, w.alloc (.cells #[.int .i64 W, .slice A n c] 65) = w0 := ⟨_, rfl⟩
  have b0 := HB0.out
  have hb0 := HBB.out
  rw [hw0] at b0 hb0 ⊢
  clear HB0 HBB hw0 t1 t2
  have h0 := h.on hb0
  have hl0 := b0.lt
  go_loopw [19] (fun i wr => ∃ k : Nat, k ≤ n ∧ i = .int .i64 k ∧ faultTo (fun i => rowErr W ((rows os).getD i [])) k = 0 ∧ Below w0.heap.size w0 wr) (fun i _ => n - (intOf i).toNat)
  case atStart => exact ⟨0, Nat.zero_le _, rfl, rfl, Below.refl _ _⟩
  case round =>
    obtain ⟨k, hk, rfl, hok, hb⟩ := hrel
    have HOK := hide hok
    have q0 : wr.cell? ⟨w.heap.size, 0, none⟩ = some (.int .i64 W) := (b0.below hb hl0).at_ (i := 0) rfl
    clear hok
    by_cases hlt : k < n
    · obtain ⟨ad, ⟨Ar, nr, cr, zs⟩, rfl, hbk, ho, hc, hr⟩ := (h0.on hb).cell hlt
      dsimp only at hc hr
      have hmr := hr.len_max
      have HO := hide (rows_at ho)
      have HZL := hide hr.ilen
      clear ho
      by_cases hl : (nr : Int) = W
      · have t1 : ((nr : Int) != W) = false := by simp [hl]
        have HL := hide hl
        clear hl
        cases hcn : cntsTo zs nr
        · have B := hide (faultTo_bad (f := fun i => rowErr W ((rows os).getD i [])) (k := k) (E := 1) HOK.out (by
                show rowErr W ((rows os).getD k []) = 1
                rw [getD_of HO.out]
                show rowErr W zs = 1
                unfold rowErr
                rw [if_pos (by rw [HZL.out]; exact HL.out), if_neg (by rw [HZL.out, hcn]; simp)]) (by decide) n hlt)
          have HC := hide (show (!noneTo (fun x => !isCnt x) zs nr) = true by rw [none_cnts, hcn]; rfl)
          clear hcn
          go_wp2_with fail
          refine (containsFunc_ints _ _ rowsFn_does Ar nr cr zs _ hr HC.out).mono ?_
          rintro e w1 ⟨rfl, hb1⟩
          go_wp2_with fail
          go_ret
          exact ⟨by rw [HE.out, B.out]; rfl, below_on hb0 (below_on hb hb1)⟩
        · have HN := hide (faultTo_next (f := fun i => rowErr W ((rows os).getD i [])) (k := k) HOK.out (by
                show rowErr W ((rows os).getD k []) = 0
                rw [getD_of HO.out]
                show rowErr W zs = 0
                unfold rowErr
                rw [if_pos (by rw [HZL.out]; exact HL.out), if_pos (by rw [HZL.out]; exact hcn)]))
          have HC := hide (show (!noneTo (fun x => !isCnt x) zs nr) = false by rw [none_cnts, hcn]; rfl)
          clear hcn
          go_wp2_with fail
          refine (containsFunc_ints _ _ rowsFn_does Ar nr cr zs _ hr HC.out).mono ?_
          rintro e w1 ⟨rfl, hb1⟩
          go_wp2_with fail
          go_roundw
          case rel => exact ⟨k + 1, by omega, by go_num, HN.out, below_on hb hb1⟩
          case measure => simp [intOf]; omega
      · have t1 : ((nr : Int) != W) = true := by simpa using hl
        have B := hide (faultTo_bad (f := fun i => rowErr W ((rows os).getD i [])) (k := k) (E := 7) HOK.out (by
                show rowErr W ((rows os).getD k []) = 7
                rw [getD_of HO.out]
                show rowErr W zs = 7
                unfold rowErr
                rw [if_neg (by rw [HZL.out]; exact hl)]) (by decide) n hlt)
        clear hl
        go_wp2_with fail
        go_ret
        exact ⟨by rw [HE.out, B.out]; rfl, below_on hb0 hb⟩
    · obtain rfl : k = n := by omega
      go_wp2_with fail
      go_ret
      exact ⟨by rw [HE.out, HOK.out]; rfl, below_on hb0 hb⟩
/-- Where a key lies in row i. -/
def plcI (s : Nat) (key : Int) (i : Nat) : Nat := plc s (keyN key) i
theorem plcI_lt {s : Nat} (h : 0 < s) (key : Int) (i : Nat) : plcI s key i < s := plc_lt h
set_option maxRecDepth 20000 in
set_option maxHeartbeats 1600000 in
theorem place_any {s i : Nat} {key : Int} (s1 : 1 ≤ s) (s2 : s ≤ 32) (i2 : i < 1000) :
    Calls Try.prog 80 #[.agg #[.int .i64 (s : Int), .slice A n c], .int .i64 (i : Int), .int .i64 key] w fun e w' => e = .returned (.int .i64 (plcI s key i)) ∧ Below w.heap.size w w' := by
  have HK := hide (keyN_lt key)
  have ek := keyN_is key
  have hdef : plcI s key i = plc s (keyN key) i := rfl
  obtain ⟨k, hk⟩ : ∃ k, keyN key = k := ⟨_, rfl⟩
  rw [hk] at HK ek hdef
  rw [hdef]
  clear hk hdef
  have es : IntKind.u64.wrap (s : Int) = (s : Int) := by rw [IntKind.wrap_u64]; omega
  have hx := sIt_lt HK.out (i + 1)
  have HM := hide (fun w => mix_any (sIt k (i + 1)) hx w)
  have HA := hide (place_arg HK.out i i2)
  have hpl : plc s k i < s := Nat.mod_lt _ (by omega)
  have ep : ((mixN (sIt k (i + 1)) : Nat) : Int) % (s : Int) = (plc s k i : Int) := rfl
  obtain ⟨X, hX⟩ : ∃ X, sIt k (i + 1) = X := ⟨_, rfl⟩
  rw [hX] at HM HA ep
  obtain ⟨M, hM⟩ : ∃ M, mixN X = M := ⟨_, rfl⟩
  rw [hM] at HM ep
  obtain ⟨p, hp⟩ : ∃ p, plc s k i = p := ⟨_, rfl⟩
  rw [hp] at hpl ep ⊢
  have HEP := hide (show IntKind.i64.wrap ((M : Int).tmod (s : Int)) = (p : Int) by rw [Int.tmod_eq_emod_of_nonneg (by omega), ep]; rw [IntKind.wrap_i64]; omega)
  clear hX hM hp hx ep HK
  have hz1 : ¬ (s : Int) = 0 := by omega
  have hz2 : ¬ s = 0 := by omega
  have hz3 : ((s : Int) == 0) = false := by simp; omega
  have es1 : IntKind.i64.wrap ((i : Int) + 1) = (i : Int) + 1 := by rw [IntKind.wrap_i64]; omega
  go_enter Try.func80, Try.ntmps80
  go_wp2_with fail
  go_quiet ((go_at_call 97; rw [HA.out]; exact Calls.quiet_of_same ((HM.out _).mono (fun _ _ h => ⟨h.1, h.2.symm⟩))))
  go_wp2_with fail
  go_ret
  exact ⟨by show Ending.returned (.int .i64 (IntKind.i64.wrap ((M : Int).tmod (s : Int)))) = _; rw [HEP.out], by repeat' (first | assumption | with_reducible exact Below.refl _ _ | with_reducible apply Below.drew | with_reducible apply below_drewN | with_reducible apply below_alloc | with_reducible refine below_set ?_ ?_ _ | (simp only [World.size_alloc, World.heap_drewN]; omega) | (simp; omega))⟩
set_option maxRecDepth 20000 in
set_option maxHeartbeats 1600000 in
theorem rplace_any {s i : Nat} {key : Int} (s1 : 1 ≤ s) (s2 : s ≤ 32) (i2 : i < 1000) :
    Calls Try.prog 45 #[.agg #[.int .i64 (s : Int), .slice A n c], .int .i64 (i : Int), .int .i64 key] w fun e w' => e = .returned (.int .i64 (plcI s key i)) ∧ Below w.heap.size w w' := by
  have HK := hide (keyN_lt key)
  have ek := keyN_is key
  have hdef : plcI s key i = plc s (keyN key) i := rfl
  obtain ⟨k, hk⟩ : ∃ k, keyN key = k := ⟨_, rfl⟩
  rw [hk] at HK ek hdef
  rw [hdef]
  clear hk hdef
  have es : IntKind.u64.wrap (s : Int) = (s : Int) := by rw [IntKind.wrap_u64]; omega
  have hx := sIt_lt HK.out (i + 1)
  have HM := hide (fun w => rmix_any (sIt k (i + 1)) hx w)
  have HA := hide (place_arg HK.out i i2)
  have hpl : plc s k i < s := Nat.mod_lt _ (by omega)
  have ep : ((mixN (sIt k (i + 1)) : Nat) : Int) % (s : Int) = (plc s k i : Int) := rfl
  obtain ⟨X, hX⟩ : ∃ X, sIt k (i + 1) = X := ⟨_, rfl⟩
  rw [hX] at HM HA ep
  obtain ⟨M, hM⟩ : ∃ M, mixN X = M := ⟨_, rfl⟩
  rw [hM] at HM ep
  obtain ⟨p, hp⟩ : ∃ p, plc s k i = p := ⟨_, rfl⟩
  rw [hp] at hpl ep ⊢
  have HEP := hide (show IntKind.i64.wrap ((M : Int).tmod (s : Int)) = (p : Int) by rw [Int.tmod_eq_emod_of_nonneg (by omega), ep]; rw [IntKind.wrap_i64]; omega)
  clear hX hM hp hx ep HK
  have hz1 : ¬ (s : Int) = 0 := by omega
  have hz2 : ¬ s = 0 := by omega
  have hz3 : ((s : Int) == 0) = false := by simp; omega
  have es2 : IntKind.u64.wrap (i : Int) = (i : Int) := by rw [IntKind.wrap_u64]; omega
  go_enter Try.func45, Try.ntmps45
  go_wp2_with fail
  go_quiet ((go_at_call 72; rw [HA.out]; exact Calls.quiet_of_same ((HM.out _).mono (fun _ _ h => ⟨h.1, h.2.symm⟩))))
  go_wp2_with fail
  go_ret
  exact ⟨by show Ending.returned (.int .i64 (IntKind.i64.wrap ((M : Int).tmod (s : Int)))) = _; rw [HEP.out], by repeat' (first | assumption | with_reducible exact Below.refl _ _ | with_reducible apply Below.drew | with_reducible apply below_drewN | with_reducible apply below_alloc | with_reducible refine below_set ?_ ?_ _ | (simp only [World.size_alloc, World.heap_drewN]; omega) | (simp; omega))⟩
end
theorem sameFn {A1 A2 : Option Addr} {n c1 c2 : Nat} {zs : List Int} {w : World} (h1 : Si w A1 n c1 zs) (h2 : Si w A2 n c2 zs) :
    Calls Try.prog 83 #[.slice A1 n c1, .slice A2 n c2] w (Quiet w (.bool true)) := by
  go_enter Try.func83, Try.ntmps83
  go_wp2_with fail
  refine (equal_yes A1 A2 n c1 c2 zs _ h1 h2).mono ?_
  rintro e w' ⟨rfl, q, rfl⟩
  go_wp2_with fail
  go_ret
  exact ⟨rfl, q, rfl⟩
set_option maxRecDepth 20000 in
set_option maxHeartbeats 1600000 in
theorem equalF_yes {A1 A2 : Option Addr} {n c1 c2 : Nat} {o1 o2 : List Row} {w : World} (h1 : Ss w A1 n c1 o1) (h2 : Ss w A2 n c2 o2) (he : rows o1 = rows o2) :
    Calls Try.prog 82 #[.slice A1 n c1, .slice A2 n c2, .func (.func 83) #[] #[]] w (Quiet w (.bool true)) := by
  have hm := h1.s.len_max
  have eg := enters_of Try.func83 (by kernel_rfl) rfl
  have HE := hide he
  clear he
  go_enter Try.func82, Try.ntmps82
  go_wp2_with fail
  go_loopw [17] (fun i wr => ∃ k : Nat, k ≤ n ∧ i = .int .i64 k ∧ ∃ q, wr = w.drewN q) (fun i _ => n - (intOf i).toNat)
  case atStart => exact ⟨0, Nat.zero_le _, rfl, 0, rfl⟩
  case round =>
    obtain ⟨k, hk, rfl, q, rfl⟩ := hrel
    by_cases hlt : k < n
    · obtain ⟨ad, ⟨Ar, nr, cr, zs⟩, rfl, hbk, ho, hc, hr⟩ := h1.cell hlt
      obtain ⟨ad2, ⟨Ap, np, cp, ys⟩, rfl, hbk2, ho2, hc2, hr2⟩ := h2.cell hlt
      dsimp only at hc hr hc2 hr2
      have e1 := rows_at ho
      rw [HE.out, rows_at ho2] at e1
      injection e1 with e1
      dsimp only at e1
      subst e1
      have e2 : np = nr := by rw [← hr.ilen, ← hr2.ilen]
      subst e2
      clear ho ho2
      go_wp2_with fail
      refine (sameFn (hr.drewN q) (hr2.drewN q)).mono ?_
      rintro e w1 ⟨rfl, q1, rfl⟩
      go_wp2_with fail
      go_roundw
      case rel => exact ⟨k + 1, by omega, by go_num, _, rfl⟩
      case measure => simp [intOf]; omega
    · obtain rfl : k = n := by omega
      go_wp2_with fail
      go_ret
      exact ⟨rfl, q, rfl⟩
set_option maxHeartbeats 800000 in
theorem sameTable_yes {W : Int} {A1 A2 : Option Addr} {n1 n2 c1 c2 : Nat} {o1 o2 : List Row} {w : World} (h1 : Ss w A1 n1 c1 o1) (h2 : Ss w A2 n2 c2 o2) (he : rows o1 = rows o2) :
    Calls Try.prog 44 #[.agg #[.int .i64 W, .slice A1 n1 c1], .agg #[.int .i64 W, .slice A2 n2 c2]] w fun e w' => e = .returned (.bool true) ∧ Below w.heap.size w w' := by
  have e2 : n2 = n1 := by
    have l := congrArg List.length he
    simp only [rows, List.length_map] at l
    rw [← h1.len, ← h2.len, l]
  subst e2
  have HE := hide he
  clear he
  go_enter Try.func44, Try.ntmps44
  go_wp2_with fail
  refine (equalF_yes (h1.on (by repeat' (first | assumption | with_reducible exact Below.refl _ _ | with_reducible apply Below.drew | with_reducible apply below_drewN | with_reducible apply below_alloc | with_reducible refine below_set ?_ ?_ _ | (simp only [World.size_alloc, World.heap_drewN]; omega) | (simp; omega)))) (h2.on (by repeat' (first | assumption | with_reducible exact Below.refl _ _ | with_reducible apply Below.drew | with_reducible apply below_drewN | with_reducible apply below_alloc | with_reducible refine below_set ?_ ?_ _ | (simp only [World.size_alloc, World.heap_drewN]; omega) | (simp; omega)))) HE.out).mono ?_
  rintro e w' ⟨rfl, q, rfl⟩
  go_wp2_with fail
  go_ret
  exact ⟨rfl, by repeat' (first | assumption | with_reducible exact Below.refl _ _ | with_reducible apply Below.drew | with_reducible apply below_drewN | with_reducible apply below_alloc | with_reducible refine below_set ?_ ?_ _ | (simp only [World.size_alloc, World.heap_drewN]; omega) | (simp; omega))⟩
end Go.Proofs.Ytjmkejindmgckaa
