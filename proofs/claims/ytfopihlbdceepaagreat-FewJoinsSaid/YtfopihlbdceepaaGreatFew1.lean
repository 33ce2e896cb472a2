/-
  few.Check, culref.within, Count: the walks. Conditions: the counters read as a list of pairs.
-/
import Derived.Test.YtfopihlbdceepaaGreatFewP
import Derived.Test.YtfopihlbdceepaaGreatOpen2
import Derived.Test.YtfopihlbdceepaaGreatApp
import Derived.Test.YtfopihlbdceepaaGreatPlain
import Derived.Test.YtfopihlbdceepaaGreatGen
import Derived.Test.YtfopihlbdceepaaGreatWithin
import Derived.WalkKit
import Derived.WalkSpells
import Derived.Deep.QuietTactic
import Derived.BigQuiet
import Derived.Outline
import Derived.Deep.Cut
namespace Go.Proofs.YtfopihlbdceepaaGreat
open Go.RowKit

theorem ct_bad {l : List Ct} {k : Nat} {x : Ct} (h : l[k]? = some x) (h1 : x.2 < 1 ∨ 1000000000000 < x.2) : ctStep l k = 1 := by unfold ctStep; rw [cAt_of h, if_pos h1]
theorem ct_first {l : List Ct} {x : Ct} (h : l[0]? = some x) (h1 : ¬ (x.2 < 1 ∨ 1000000000000 < x.2)) : ctStep l 0 = 0 := by unfold ctStep; rw [cAt_of h, if_neg h1, if_neg (by omega)]
theorem ct_next {l : List Ct} {k : Nat} {x y : Ct} (h : l[k]? = some x) (hy : l[k - 1]? = some y) (hk : 0 < k) (h1 : ¬ (x.2 < 1 ∨ 1000000000000 < x.2)) : ctStep l k = if x.1 ≤ y.1 then 3 else 0 := by
  unfold ctStep
  rw [cAt_of h, cAt_of hy, if_neg h1]
  by_cases hc : x.1 ≤ y.1
  · rw [if_pos ⟨hk, hc⟩, if_pos hc]
  · rw [if_neg (by omega), if_neg hc]
theorem fw_at {K L : Int} {n k : Nat} {l : List Ct} {E : Int} (h1 : ¬ fwBad K L) (h2 : ¬ K < n) (hk : k < n) (h0 : faultTo (ctStep l) k = 0) (he : ctStep l k = E) (hE : E ≠ 0) : fwErr K L n l = E := by
  unfold fwErr
  rw [if_neg h1, if_neg h2]
  exact faultTo_bad h0 he hE n hk
/-- A slice of counters. -/
abbrev Sp (w : World) (A : Option Addr) (n c : Nat) (l : List Ct) : Prop := Sl w w.heap.size 2 A n c (prs l)
section
variable {A : Option Addr} {n c : Nat} {l : List Ct} {w : World}
set_option maxRecDepth 20000 in
set_option maxHeartbeats 6400000 in
theorem fcheck_any (K L : Int) (h : Sp w A n c l) :
    Calls Tryz.prog 12 #[.agg #[.int .i64 K, .int .i64 L, .slice A n c]] w fun e w' => e = .returned (.int .i64 (fwErr K L n l)) ∧ Below w.heap.size w w' := by
  have hm := h.len_max
  have HL := hide h.plen
  have bp0 := Blk.new w 24 #[.int .i64 K, .int .i64 L, .slice A n c]
  have hb0 : Below w.heap.size w (w.alloc (.cells #[.int .i64 K, .int .i64 L, .slice A n c] 24)) := by repeat' (first | assumption | with_reducible exact Below.refl _ _ | with_reducible apply Below.drew | with_reducible apply below_drewN | with_reducible apply below_alloc | with_reducible refine below_set ?_ ?_ _ | (simp only [World.size_alloc, World.heap_drewN]; omega) | (simp; omega))
  by_cases hbad : fwBad K L
  · have HE := hide (show fwErr K L n l = 1 from if_pos hbad)
    unfold fwBad at hbad
    by_cases c1 : K < 1
    · clear hbad
      go_enter Tryz.func12, Tryz.ntmps12
      go_wp2_with fail
      rw [HE.out]
      go_ret
      exact ⟨rfl, hb0⟩
    · by_cases c2 : 16 < K
      · clear hbad
        go_enter Tryz.func12, Tryz.ntmps12
        go_wp2_with fail
        rw [HE.out]
        go_ret
        exact ⟨rfl, hb0⟩
      · by_cases c3 : L < 0
        · clear hbad
          go_enter Tryz.func12, Tryz.ntmps12
          go_wp2_with fail
          rw [HE.out]
          go_ret
          exact ⟨rfl, hb0⟩
        · have c4 : 1000000000000 < L := by omega
          clear hbad
          go_enter Tryz.func12, Tryz.ntmps12
          go_wp2_with fail
          rw [HE.out]
          go_ret
          exact ⟨rfl, hb0⟩
  · have HB := hide hbad
    have hb' := hbad
    unfold fwBad at hb'
    have c1 : ¬ K < 1 := by omega
    have c2 : ¬ 16 < K := by omega
    have c3 : ¬ L < 0 := by omega
    have c4 : ¬ 1000000000000 < L := by omega
    clear hb'
    by_cases hlen : K < n
    · have HE := hide (show fwErr K L n l = 2 by unfold fwErr; rw [if_neg HB.out, if_pos hlen])
      clear hbad
      go_enter Tryz.func12, Tryz.ntmps12
      go_wp2_with fail
      rw [HE.out]
      go_ret
      exact ⟨rfl, hb0⟩
    · have HN := hide (show (n : Int) ≤ K by omega)
      clear hbad
      go_enter Tryz.func12, Tryz.ntmps12
      go_wp2_with fail
      go_loopw [32] (fun i wr => ∃ k : Nat, k ≤ n ∧ i = .int .i64 k ∧ Hid (faultTo (ctStep l) k = 0) ∧ Blk wr w.heap.size 24 #[.int .i64 K, .int .i64 L, .slice A n c] ∧ Below w.heap.size w wr) (fun i _ => n - (intOf i).toNat)
      case atStart => exact ⟨0, Nat.zero_le _, rfl, hide rfl, bp0, hb0⟩
      case round =>
        clear bp0 hb0
        obtain ⟨k, hk, rfl, HK, bp, hb⟩ := hrel
        by_cases hlt : k < n
        · obtain ⟨ad, x, rfl, hbk, hx, hc0, hc1⟩ := (h.below hb).pcell hlt
          have HX := hide hx
          clear hx
          obtain ⟨x1, x2⟩ := x
          dsimp only at hc0 hc1
          have bq := Blk.new wr 40 #[.int .i64 x1, .int .i64 x2]
          have bp2 := bp.alloc (.cells #[.int .i64 x1, .int .i64 x2] 40)
          have hb2 := below_alloc hb (.cells #[.int .i64 x1, .int .i64 x2] 40)
          have q0 := bq.at_ (i := 0) (u := .int .i64 x1) rfl
          have q1 := bq.at_ (i := 1) (u := .int .i64 x2) rfl
          have p2 := bp2.at_ (i := 2) (u := .slice (some ad) n c) rfl
          by_cases hbd : x2 < 1 ∨ 1000000000000 < x2
          · have HF := hide (fw_at HB.out (Int.not_lt.2 HN.out) hlt HK.out (ct_bad HX.out hbd) (by decide))
            by_cases d1 : x2 < 1
            · clear hbd
              go_wp2_with fail
              rw [HF.out]
              go_ret
              exact ⟨rfl, hb2⟩
            · have d2 : 1000000000000 < x2 := by omega
              clear hbd
              go_wp2_with fail
              rw [HF.out]
              go_ret
              exact ⟨rfl, hb2⟩
          · have d1 : ¬ x2 < 1 := by omega
            have d2 : ¬ 1000000000000 < x2 := by omega
            by_cases hk0 : k = 0
            · have HS := hide (faultTo_next HK.out (show ctStep l k = 0 by subst hk0; exact ct_first HX.out hbd))
              have t0 : decide (0 < (k : Int)) = false := by rw [hk0]; rfl
              have t1 : ¬ 0 < (k : Int) := by omega
              have t4 : ¬ 0 < k := by omega
              have t5 : decide (0 < k) = false := decide_eq_false t4
              clear hk0 hbd
              go_upto_region 10 with fail
              clear bq hc0 hc1
              generalize (wr.alloc (.cells #[.int .i64 x1, .int .i64 x2] 40)) = wz at q0 q1 p2 bp2 hb2 ⊢
              go_quiet (fail)
              go_wp2_with fail
              go_roundw
              case rel => exact ⟨k + 1, by omega, by go_num, HS, bp2.drewN _, by repeat' (first | assumption | with_reducible exact Below.refl _ _ | with_reducible apply Below.drew | with_reducible apply below_drewN | with_reducible apply below_alloc | with_reducible refine below_set ?_ ?_ _ | (simp only [World.size_alloc, World.heap_drewN]; omega) | (simp; omega))⟩
              case measure => simp [intOf]; omega
            · obtain ⟨m, hkm⟩ : ∃ m : Nat, k = m + 1 := ⟨k - 1, by omega⟩
              obtain ⟨ad', y, had, hbk', hy, hy0, hy1⟩ := (h.below hb2).pcell (j := m) (by omega)
              injection had with had
              subst had
              have HC := hide (ct_next (l := l) (k := k) HX.out (by rw [hkm]; exact hy) (by omega) hbd)
              have t0 : decide (0 < (k : Int)) = true := decide_eq_true (by omega)
              have t1 : 0 < (k : Int) := by omega
              have t4 : 0 < k := by omega
              have t5 : decide (0 < k) = true := decide_eq_true t4
              have t2 : IntKind.i64.wrap (m : Int) = (m : Int) := IntWalk.i64_in _ (by omega)
              have t3 : (k : Int) - 1 = (m : Int) := by omega
              have hmn : m < n := by omega
              obtain ⟨y1, y2⟩ := y
              dsimp only at hy0 hy1 HC
              clear hk0 hbd hy hkm
              by_cases hle : x1 ≤ y1
              · have HF := hide (fw_at HB.out (Int.not_lt.2 HN.out) hlt HK.out (HC.out.trans (if_pos hle)) (by decide))
                have t6 : decide (x1 ≤ y1) = true := decide_eq_true hle
                go_upto_region 10 with fail
                clear bq hc0 hc1
                generalize (wr.alloc (.cells #[.int .i64 x1, .int .i64 x2] 40)) = wz at q0 q1 p2 bp2 hb2 hy0 hy1 ⊢
                go_quiet (fail)
                go_wp2_with fail
                rw [HF.out]
                go_ret
                exact ⟨rfl, by repeat' (first | assumption | with_reducible exact Below.refl _ _ | with_reducible apply Below.drew | with_reducible apply below_drewN | with_reducible apply below_alloc | with_reducible refine below_set ?_ ?_ _ | (simp only [World.size_alloc, World.heap_drewN]; omega) | (simp; omega))⟩
              · have HS := hide (faultTo_next HK.out (HC.out.trans (if_neg hle)))
                have t6 : decide (x1 ≤ y1) = false := decide_eq_false hle
                go_upto_region 10 with fail
                clear bq hc0 hc1
                generalize (wr.alloc (.cells #[.int .i64 x1, .int .i64 x2] 40)) = wz at q0 q1 p2 bp2 hb2 hy0 hy1 ⊢
                go_quiet (fail)
                go_wp2_with fail
                go_roundw
                case rel => exact ⟨k + 1, by omega, by go_num, HS, bp2.drewN _, by repeat' (first | assumption | with_reducible exact Below.refl _ _ | with_reducible apply Below.drew | with_reducible apply below_drewN | with_reducible apply below_alloc | with_reducible refine below_set ?_ ?_ _ | (simp only [World.size_alloc, World.heap_drewN]; omega) | (simp; omega))⟩
                case measure => simp [intOf]; omega
        · obtain rfl : k = n := by omega
          have HE := hide (show fwErr K L k l = 0 by unfold fwErr; rw [if_neg HB.out, if_neg (Int.not_lt.2 HN.out)]; exact HK.out)
          go_wp2_with fail
          rw [HE.out]
          go_ret
          exact ⟨rfl, hb⟩
end
end Go.Proofs.YtfopihlbdceepaaGreat
