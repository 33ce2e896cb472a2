/-
  culref.Places: the walk (under way, not whole). Condition: the filter may be.
-/
import Derived.Test.YtjmkejindmgckaaBloom7
import Derived.Deep.RegionLaw
namespace Go.Proofs.Ytjmkejindmgckaa
open Go.RowKit

theorem place_arg {k : Nat} (hk : k < 18446744073709551616) (i : Nat) (hi : i < 1000) : IntKind.u64.wrap ((k : Int) + IntKind.u64.wrap (IntKind.u64.wrap ((i : Int) + 1) * 11400714819323198485)) = (sIt k (i + 1) : Int) := by
  rw [sIt_is hk, show IntKind.u64.wrap ((i : Int) + 1) = (i : Int) + 1 by rw [IntKind.wrap_u64]; omega, IntKind.wrap_u64, IntKind.wrap_u64]; omega
set_option maxRecDepth 100000 in
set_option maxHeartbeats 1600000 in
theorem rplaces_ok {A : Option Addr} {n c s m : Nat} {key : Int} {w : World} (s1 : 1 ≤ s) (s2 : s ≤ 256) (m2 : m ≤ 8) :
    Calls Try.prog 27 #[.agg #[.int .i64 (s : Int), .int .i64 (m : Int), .slice A n c], .int .i64 key] w (PlcRet w m (plcTo s (keyN key) m)) := by
  have HK := hide (keyN_lt key)
  have ek := keyN_is key
  obtain ⟨k, hk⟩ : ∃ k, keyN key = k := ⟨_, rfl⟩
  rw [hk] at HK ek ⊢
  clear hk
  have es : IntKind.u64.wrap (s : Int) = (s : Int) := by rw [IntKind.wrap_u64]; omega
  have b0 := (Blk.new w 42 #[.int .i64 (s : Int), .int .i64 (m : Int), .slice A n c])
  have hb0 : Below w.heap.size w (w.alloc (.cells #[.int .i64 (s : Int), .int .i64 (m : Int), .slice A n c] 42)) := (Below.refl _ _).alloc (Nat.le_refl _) _
  have HB0 := hide b0
  have HBB := hide hb0
  clear b0 hb0
  go_enter Try.func27, Try.ntmps27
  go_wp2_with fail
  obtain ⟨w0, hw0⟩ : ∃ w0, w.alloc (.cells #[.int .i64 (s : Int), .int .i64 (m : Int), .slice A n c] 42) = w0 := ⟨_, rfl⟩
  have b0 := HB0.out
  have hb0 := HBB.out
  rw [hw0] at b0 hb0 ⊢
  have z0 := hb0.size
  have hl0 := b0.lt
  clear HB0 HBB hw0
  go_loopw [5, 6] (fun vo vi wr => ∃ (i : Nat) (Ao : Option Addr) (co : Nat), i ≤ m ∧ vi = .int .i64 ((i : Int) + 1) ∧ vo = .slice Ao i co ∧ Own wr w0.heap.size 3 1 Ao i co (ints (plcTo s k i)) ∧ Below w0.heap.size w0 wr) (fun _ i _ => m + 1 - (intOf i).toNat)
  case atStart => exact ⟨0, none, 0, Nat.zero_le _, rfl, rfl, Own.nil _ _ _ _, Below.refl _ _⟩
  case round =>
    obtain ⟨i, Ao, co, hi, rfl, rfl, own, hb⟩ := hrel
    have zr := hb.size
    have bw := b0.below hb hl0
    have q0 : wr.cell? ⟨w.heap.size, 0, none⟩ = some (.int .i64 (s : Int)) := bw.at_ (i := 0) rfl
    have q1 : wr.cell? ⟨w.heap.size, 1, none⟩ = some (.int .i64 (m : Int)) := bw.at_ (i := 1) rfl
    by_cases hlt : i < m
    · have hx := sIt_lt HK.out (i + 1)
      have HM := hide (fun w => rmix_any (sIt k (i + 1)) hx w)
      have HA := hide (place_arg HK.out i (by omega))
      have HP := hide (plcTo_next s k i)
      have hpl : plc s k i < s := Nat.mod_lt _ (by omega)
      have ep : ((mixN (sIt k (i + 1)) : Nat) : Int) % (s : Int) = (plc s k i : Int) := rfl
      obtain ⟨X, hX⟩ : ∃ X, sIt k (i + 1) = X := ⟨_, rfl⟩
      rw [hX] at HM HA ep
      obtain ⟨M, hM⟩ : ∃ M, mixN X = M := ⟨_, rfl⟩
      rw [hM] at HM ep
      obtain ⟨p, hp⟩ : ∃ p, plc s k i = p := ⟨_, rfl⟩
      rw [hp] at HP hpl ep
      have HEP := hide (show IntKind.i64.wrap ((M : Int).tmod (s : Int)) = (p : Int) by rw [Int.tmod_eq_emod_of_nonneg (by omega), ep]; first | (rw [IntKind.wrap_i64]; omega) | exact (show wrap64 (p : Int) = p from wrap64_id _ (by omega) (by omega)) | (unfold IntKind.wrap; simp; omega))
      clear hX hM hp hx ep
      have hz1 : ¬ (s : Int) = 0 := by omega
      have hz2 : ¬ s = 0 := by omega
      have hz3 : ((s : Int) == 0) = false := by simp; omega
      go_wp2_with fail
      go_region_law
        (first
          | (refine step_append_one T_int (base := w0.heap.size) (A := Ao) (xs := ints (plcTo s k i)) (v := .int .i64 (IntKind.i64.wrap ((M : Int).tmod (s : Int)))) (by rfl) (.tmp 13) (.tmp 26) (by rfl) (by rfl) (by rfl) ?_ ?_ rfl ?_ ?_ ?_ ?_; (first | with_reducible exact (own.alloc _).drew | with_reducible exact own.drew.alloc _ | with_reducible exact own.alloc _ | with_reducible exact own.drew); (first | with_reducible exact at_new _ _ | with_reducible exact at_newd _ _); (simp only [maxLen]; omega); omega; (simp only [World.drew, World.size_alloc]; omega); intro A4 c4 w4 ap; have own4 := ap.own; have hb4 : Below w0.heap.size w0 w4 := hb.trans (Below.trans (by repeat' (first | assumption | with_reducible exact Below.refl _ _ | with_reducible apply Below.drew | (with_reducible refine Below.alloc ?_ ?_ _) | (simp only [World.size_alloc, World.drew]; omega) | (simp; omega))) ap.below))
          | (go_simp; go_at_call 72; rw [HA.out]; refine (HM.out _).mono ?_; rintro e w' ⟨rfl, rfl⟩))
      all_goals
        rw [HEP.out] at own4
        rw [show ints (plcTo s k i) ++ [Value.int .i64 (p : Int)] = ints (plcTo s k (i + 1)) from by rw [HP.out, ints_append]; rfl] at own4
        clear ap
        go_wp2_with fail
        go_roundw
        case rel => exact ⟨i + 1, A4, c4, by omega, by go_num, rfl, by first | exact own4 | exact own4.drew, by first | exact hb4 | exact below_drewN hb4 1⟩
        case measure => simp [intOf]; omega
    · obtain rfl : i = m := by omega
      go_wp2_with fail
      go_ret
      exact ⟨_, _, rfl, own.mono z0, below_on hb0 hb⟩
end Go.Proofs.Ytjmkejindmgckaa
