/-
  table.Check, culref.Rows, table.place, culref.Place: the walks. Conditions: the rows read as lists of numbers.
-/
import Derived.Test.YtjmkejindmgckaaTableP
import Derived.Test.YtjmkejindmgckaaOpen3
import Derived.Test.YtjmkejindmgckaaBloom8
import Derived.Test.YtjmkejindmgckaaFunc
import Derived.Test.YtjmkejindmgckaaCount
namespace Go.Proofs.Ytjmkejindmgckaa
open Go.RowKit

/-- What the rows read as. -/
def rows (os : List Row) : List (List Int) := os.map fun o => o.2.2.2
theorem rows_at {os : List Row} {k : Nat} {o : Row} (h : os[k]? = some o) : (rows os)[k]? = some o.2.2.2 := by simp [rows, h]
theorem tab_cases {W : Int} {n : Nat} (h : tabBad W n) : W < 1 ∨ (¬ W < 1 ∧ 32 < W) ∨ (¬ W < 1 ∧ ¬ 32 < W ∧ n < 1) ∨ (¬ W < 1 ∧ ¬ 32 < W ∧ ¬ n < 1 ∧ 4 < n) := by unfold tabBad at h; omega
section
variable {W : Int} {A : Option Addr} {n c : Nat} {os : List Row} {w : World}
set_option maxRecDepth 20000 in
set_option maxHeartbeats 1600000 in
theorem tcheck_any (h : Ss w A n c os) :
    Calls Try.prog 43 #[.agg #[.int .i64 W, .slice A n c]] w fun e w' => e = .returned (.int .i64 (tabErr W n (rows os))) ∧ Below w.heap.size w w' := by
  have hm := h.s.len_max
  by_cases g1 : tabBad W n
  · have E := hide (show tabErr W n (rows os) = 1 from if_pos g1)
    rcases tab_cases g1 with k1 | ⟨k1, k2⟩ | ⟨k1, k2, k3⟩ | ⟨k1, k2, k3, k4⟩
    all_goals
      clear g1
      go_enter Try.func43, Try.ntmps43
      go_wp2_with fail
      go_ret
      exact ⟨by rw [E.out]; rfl, by repeat' (first | assumption | with_reducible exact Below.refl _ _ | with_reducible apply Below.drew | with_reducible apply below_drewN | with_reducible apply below_alloc | with_reducible refine below_set ?_ ?_ _ | (simp only [World.size_alloc, World.heap_drewN]; omega) | (simp; omega))⟩
  have HE := hide (show tabErr W n (rows os) = faultTo (fun i => rowErr W ((rows os).getD i [])) n from if_neg g1)
  have k1 : 1 ≤ W := by unfold tabBad at g1; omega
  have k2 : W ≤ 32 := by unfold tabBad at g1; omega
  have k3 : 1 ≤ n := by unfold tabBad at g1; omega
  have k4 : n ≤ 4 := by unfold tabBad at g1; omega
  clear g1
  have b0 := (Blk.new w 65 #[.int .i64 W, .slice A n c])
  have hb0 : Below w.heap.size w (w.alloc (.cells #[.int .i64 W, .slice A n c] 65)) := (Below.refl _ _).alloc (Nat.le_refl _) _
  have HB0 := hide b0
  have HBB := hide hb0
  clear b0 hb0
  go_enter Try.func43, Try.ntmps43
  go_wp2_with fail
  obtain ⟨w0, hw0⟩ : ∃ w0, w.alloc (.cells #[.int .i64 W, .slice A n c] 65) = w0 := ⟨_, rfl⟩
  have b0 := HB0.out
  have hb0 := HBB.out
  rw [hw0] at b0 hb0 ⊢
  clear HB0 HBB hw0
  have h0 := h.on hb0
  have q0 : w0.cell? ⟨w.heap.size, 0, none⟩ = some (.int .i64 W) := b0.at_ (i := 0) rfl
  have HBB := hide hb0
  clear hb0
  go_loop [30] (fun i => ∃ k : Nat, k ≤ n ∧ i = .int .i64 k ∧ faultTo (fun i => rowErr W ((rows os).getD i [])) k = 0) (fun i => n - (intOf i).toNat)
  case atStart => exact ⟨0, Nat.zero_le _, rfl, rfl⟩
  case round =>
    obtain ⟨k, hk, rfl, hok⟩ := hrel
    have HOK := hide hok
    clear hok
    by_cases hlt : k < n
    · obtain ⟨ad, ⟨Ar, nr, cr, zs⟩, rfl, hbk, ho, hc, hr⟩ := h0.cell hlt
      dsimp only at hc hr
      have hmr := hr.len_max
      have HO := hide (rows_at ho)
      have HZL := hide hr.ilen
      clear ho
      by_cases hl : (nr : Int) = W
      · have t1 : ((nr : Int) != W) = false := by simp [hl]
        have HL := hide hl
        clear hl
        go_wp2_with fail
        go_loop [41] (fun j => ∃ m : Nat, m ≤ nr ∧ j = .int .i64 m ∧ cntsTo zs m = true) (fun j => nr - (intOf j).toNat)
        case atStart => exact ⟨0, Nat.zero_le _, rfl, rfl⟩
        case round =>
          obtain ⟨m, hm, rfl, hcn⟩ := hrel
          have HC := hide hcn
          clear hcn
          by_cases hlt2 : m < nr
          · obtain ⟨ad2, x, rfl, hbk2, hx, hcx⟩ := hr.icell hlt2
            have HX := hide hx
            clear hx
            by_cases x0 : x < 0
            · have B := hide (faultTo_bad (f := fun i => rowErr W ((rows os).getD i [])) (k := k) (E := 1) HOK.out (by
                show rowErr W ((rows os).getD k []) = 1
                rw [getD_of HO.out]
                show rowErr W zs = 1
                unfold rowErr
                rw [if_pos (by rw [HZL.out]; exact HL.out), if_neg]
                unfold cntsTo
                rw [okTo_bad (k := m) (by rw [getD_of HX.out]; exact isCnt_no (by omega)) _ (by rw [HZL.out]; exact hlt2)]
                simp) (by decide) n hlt)
              go_wp2_with fail
              go_ret
              exact ⟨by rw [HE.out, B.out]; rfl, HBB.out⟩
            by_cases x1 : 1000000000000 < x
            · have B := hide (faultTo_bad (f := fun i => rowErr W ((rows os).getD i [])) (k := k) (E := 1) HOK.out (by
                show rowErr W ((rows os).getD k []) = 1
                rw [getD_of HO.out]
                show rowErr W zs = 1
                unfold rowErr
                rw [if_pos (by rw [HZL.out]; exact HL.out), if_neg]
                unfold cntsTo
                rw [okTo_bad (k := m) (by rw [getD_of HX.out]; exact isCnt_no (by omega)) _ (by rw [HZL.out]; exact hlt2)]
                simp) (by decide) n hlt)
              go_wp2_with fail
              go_ret
              exact ⟨by rw [HE.out, B.out]; rfl, HBB.out⟩
            have HN := hide (show cntsTo zs (m + 1) = true from okTo_next HC.out (by rw [getD_of HX.out]; exact isCnt_yes (by omega)))
            go_wp2_with fail
            go_round
            case rel => exact ⟨m + 1, by omega, by go_num, HN.out⟩
            case measure => simp [intOf]; omega
          · obtain rfl : m = nr := by omega
            have HN := hide (faultTo_next (f := fun i => rowErr W ((rows os).getD i [])) (k := k) HOK.out (by
                show rowErr W ((rows os).getD k []) = 0
                rw [getD_of HO.out]
                show rowErr W zs = 0
                unfold rowErr
                rw [if_pos (by rw [HZL.out]; exact HL.out), if_pos (by rw [HZL.out]; exact HC.out)]))
            go_wp2_with fail
            go_round
            case rel => exact ⟨k + 1, by omega, by go_num, HN.out⟩
            case measure => simp [intOf]; omega
      · have t1 : ((nr : Int) != W) = true := by simpa using hl
        have B := hide (faultTo_bad (f := fun i => rowErr W ((rows os).getD i [])) (k := k) (E := 7) HOK.out (by
                show rowErr W ((rows os).getD k []) = 7
                rw [getD_of HO.out]
                show rowErr W zs = 7
                unfold rowErr
                rw [if_neg (by rw [HZL.out]; exact hl)]) (by decide) n hlt)
        clear hl
        go_wp2_with fail
        go_ret
        exact ⟨by rw [HE.out, B.out]; rfl, HBB.out⟩
    · obtain rfl : k = n := by omega
      go_wp2_with fail
      go_ret
      exact ⟨by rw [HE.out, HOK.out]; rfl, HBB.out⟩
end
end Go.Proofs.Ytjmkejindmgckaa
