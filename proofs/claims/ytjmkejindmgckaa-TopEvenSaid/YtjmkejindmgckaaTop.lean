/-
  What the tops' laws ask ahead: begun, sum, a number held within 9. Conditions: those that each names.
-/
import Derived.Test.YtjmkejindmgckaaDigit5
import Derived.Test.YtjmkejindmgckaaWeights
import Derived.Test.YtjmkejindmgckaaEq
import Derived.Test.YtjmkejindmgckaaClone
namespace Go.Proofs.Ytjmkejindmgckaa
open Go.RowKit

theorem within9 (x : Int) (w : World) : Calls Try.prog 16 #[.int .i64 x, .int .i64 9] w fun e w' => (∃ p : Nat, p < 9 ∧ e = .returned (.int .i64 p)) ∧ w = w' := by
  obtain ⟨q, hq⟩ : ∃ q : Nat, IntKind.u64.wrap x = (q : Int) := ⟨(x % 18446744073709551616).toNat, by rw [IntKind.wrap_u64]; omega⟩
  obtain ⟨p, hp, hp9⟩ : ∃ p : Nat, q % 9 = p ∧ p < 9 := ⟨_, rfl, Nat.mod_lt _ (by decide)⟩
  have hr : (q : Int) % 9 = (p : Int) := by omega
  have h9 : IntKind.u64.wrap 9 = 9 := by rw [IntKind.wrap_u64]; rfl
  have hq0 : IntKind.i64.wrap (p : Int) = p := IntWalk.i64_in _ (by omega)
  clear hp
  have HR := hide hr
  clear hr
  go_enter Try.func16, Try.ntmps16
  go_wp2_with fail
  go_ret
  exact ⟨⟨p, hp9, by rw [← HR.out]; rfl⟩, rfl⟩

set_option maxRecDepth 20000 in
set_option maxHeartbeats 1600000 in
theorem sum_ok {A : Option Addr} {n c : Nat} {xs : List Int} {w : World} (h : Si w A n c xs) (hb : ∀ k, k ≤ n → -1000000000000000 ≤ wsum xs k ∧ wsum xs k ≤ 1000000000000000) :
    Calls Try.prog 17 #[.slice A n c] w fun e w' => e = .returned (.int .i64 (wsum xs n)) ∧ Below w.heap.size w w' := by
  have hm := h.len_max
  have HB := hide hb
  clear hb
  go_enter Try.func17, Try.ntmps17
  go_wp2_with fail
  go_loopw [3, 8] (fun v i wr => ∃ k : Nat, k ≤ n ∧ i = .int .i64 k ∧ v = .int .i64 (wsum xs k) ∧ ∃ q, wr = w.drewN q) (fun _ i _ => n - (intOf i).toNat)
  case atStart => exact ⟨0, Nat.zero_le _, rfl, rfl, 0, rfl⟩
  case round =>
    obtain ⟨k, hk, rfl, rfl, q, rfl⟩ := hrel
    by_cases hlt : k < n
    · obtain ⟨ad, x, rfl, hbk, hx, hc⟩ := h.icell hlt
      have HS := hide (wsum_next hx)
      have h1 := HB.out k hk
      have h2 := HB.out (k + 1) (by omega)
      rw [HS.out] at h2
      clear hx
      obtain ⟨V, hV⟩ : ∃ V, wsum xs k = V := ⟨_, rfl⟩
      rw [hV] at h1 h2 HS
      rw [hV]
      clear hV
      obtain ⟨h1a, h1b⟩ := h1
      obtain ⟨h2a, h2b⟩ := h2
      go_wp2
      go_roundw
      case rel => exact ⟨k + 1, by omega, by go_num, by rw [HS.out], _, rfl⟩
      case measure => simp [intOf]; omega
    · obtain rfl : k = n := by omega
      go_wp2
      go_ret
      exact ⟨rfl, by repeat' (first | assumption | with_reducible exact Below.refl _ _ | with_reducible apply Below.drew | with_reducible apply below_drewN | with_reducible apply below_alloc | with_reducible refine below_set ?_ ?_ _ | (simp only [World.size_alloc, World.heap_drewN]; omega) | (simp; omega))⟩
theorem unr21 : casts (unr (List.range 2) 2 1) = [1, 0] := by decide
set_option maxRecDepth 20000 in
set_option maxHeartbeats 1600000 in
theorem begun_ok (w : World) : Calls Try.prog 15 #[] w fun e w' => e = .returned (.bool true) ∧ Below w.heap.size w w' := by
  have k := fun w => order_ok (w := w) (m := 2) (r := 1) (by decide) (by decide)
  rw [unr21] at k
  have K := hide k
  clear k
  go_enter Try.func15, Try.ntmps15
  go_wp2_with fail
  refine (K.out _).mono ?_
  rintro e w1 ⟨A, c, rfl, own, hb⟩
  have S1 := own.sl
  have es : same [1, 0] [1, 0] = true := same_yes rfl
  go_wp2_with fail
  refine (equal_yes _ _ 2 c 2 [1, 0] _ (S1.on (by repeat' (first | assumption | with_reducible exact Below.refl _ _ | with_reducible apply Below.drew | with_reducible apply below_drewN | with_reducible apply below_alloc | with_reducible refine below_set ?_ ?_ _ | (simp only [World.size_alloc, World.heap_drewN]; omega) | (simp; omega)))) (Sl.blk 1 2 (e := 3) (by simp only [heap_alloc_get, World.size_alloc]; simp [ints]) rfl (by simp [maxLen]))).mono ?_
  rintro e w2 ⟨rfl, q, rfl⟩
  go_wp2_with fail
  go_ret
  exact ⟨rfl, by repeat' (first | assumption | with_reducible exact Below.refl _ _ | with_reducible apply Below.drew | with_reducible apply below_drewN | with_reducible apply below_alloc | with_reducible refine below_set ?_ ?_ _ | (simp only [World.size_alloc, World.heap_drewN]; omega) | (simp; omega))⟩
end Go.Proofs.Ytjmkejindmgckaa
