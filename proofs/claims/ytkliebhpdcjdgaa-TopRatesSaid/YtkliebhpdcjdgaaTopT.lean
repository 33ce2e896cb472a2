/-
  What the tops' laws ask ahead: begun, sum, a number held within bounds. Conditions: those that each names.
-/
import Derived.Test.YtkliebhpdcjdgaaDigit5T
import Derived.Test.YtkliebhpdcjdgaaCumP
import Derived.Test.YtkliebhpdcjdgaaWalker
import Derived.Test.YtkliebhpdcjdgaaEq
import Derived.Test.YtkliebhpdcjdgaaClone
namespace Go.Proofs.Ytkliebhpdcjdgaa
open Go.RowKit

theorem within_m {m : Nat} (m1 : 1 ≤ m) (m2 : m ≤ 1000000) (x : Int) (w : World) : Calls Try.prog 44 #[.int .i64 x, .int .i64 m] w fun e w' => (∃ p : Nat, p < m ∧ e = .returned (.int .i64 p)) ∧ w = w' := by
  obtain ⟨q, hq⟩ : ∃ q : Nat, IntKind.u64.wrap x = (q : Int) := ⟨(x % 18446744073709551616).toNat, by rw [IntKind.wrap_u64]; omega⟩
  obtain ⟨p, hp, hp9⟩ : ∃ p : Nat, q % m = p ∧ p < m := ⟨_, rfl, Nat.mod_lt _ (by omega)⟩
  have hr : (q : Int) % (m : Int) = (p : Int) := by rw [← hp]; exact (Int.natCast_emod q m).symm
  have h9 : IntKind.u64.wrap (m : Int) = m := by rw [IntKind.wrap_u64]; omega
  have hq0 : IntKind.i64.wrap (p : Int) = p := IntWalk.i64_in _ (by omega)
  have hm0 : ¬ (m : Int) = 0 := by omega
  have hb0 : ((m : Int) == 0) = false := by simpa using hm0
  clear hp
  have HR := hide hr
  clear hr
  go_enter Try.func44, Try.ntmps44
  go_wp2_with fail
  go_ret
  exact ⟨⟨p, hp9, by show Ending.returned (Value.int .i64 (wrap64 ((q : Int) % (m : Int)))) = _; rw [HR.out, show wrap64 (p : Int) = p by unfold wrap64; omega]⟩, rfl⟩

theorem wsum_nx {xs : List Int} {k : Nat} {x : Int} (h : xs[k]? = some x) : wsum xs (k + 1) = wsum xs k + x := by rw [wsum, getD_of h]
set_option maxRecDepth 20000 in
set_option maxHeartbeats 1600000 in
theorem sum_ok {A : Option Addr} {n c : Nat} {xs : List Int} {w : World} (h : Si w A n c xs) (hb : ∀ k, k ≤ n → -1000000000000000 ≤ wsum xs k ∧ wsum xs k ≤ 1000000000000000) :
    Calls Try.prog 46 #[.slice A n c] w fun e w' => e = .returned (.int .i64 (wsum xs n)) ∧ Below w.heap.size w w' := by
  have hm := h.len_max
  have HB := hide hb
  clear hb
  go_enter Try.func46, Try.ntmps46
  go_wp2_with fail
  go_loopw [3, 8] (fun v i wr => ∃ k : Nat, k ≤ n ∧ i = .int .i64 k ∧ v = .int .i64 (wsum xs k) ∧ ∃ q, wr = w.drewN q) (fun _ i _ => n - (intOf i).toNat)
  case atStart => exact ⟨0, Nat.zero_le _, rfl, rfl, 0, rfl⟩
  case round =>
    obtain ⟨k, hk, rfl, rfl, q, rfl⟩ := hrel
    by_cases hlt : k < n
    · obtain ⟨ad, x, rfl, hbk, hx, hc⟩ := h.icell hlt
      have HS := hide (wsum_nx hx)
      have h1 := HB.out k hk
      have h2 := HB.out (k + 1) (by omega)
      rw [HS.out] at h2
      clear hx
      obtain ⟨V, hV⟩ : ∃ V, wsum xs k = V := ⟨_, rfl⟩
      rw [hV] at h1 h2 HS
      rw [hV]
      clear hV
      obtain ⟨h1a, h1b⟩ := h1
      obtain ⟨h2a, h2b⟩ := h2
      go_wp2
      go_roundw
      case rel => exact ⟨k + 1, by omega, by go_num, by rw [HS.out], _, rfl⟩
      case measure => simp [intOf]; omega
    · obtain rfl : k = n := by omega
      go_wp2
      go_ret
      exact ⟨rfl, by repeat' (first | assumption | with_reducible exact Below.refl _ _ | with_reducible apply Below.drew | with_reducible apply below_drewN | with_reducible apply below_alloc | with_reducible refine below_set ?_ ?_ _ | (simp only [World.size_alloc, World.heap_drewN]; omega) | (simp; omega))⟩
theorem unr21 : casts (unr (List.range 2) 2 1) = [1, 0] := by decide
set_option maxRecDepth 20000 in
set_option maxHeartbeats 1600000 in
theorem begun_ok (w : World) : Calls Try.prog 43 #[] w fun e w' => e = .returned (.bool true) ∧ Below w.heap.size w w' := by
  have k := fun w => order_ok (w := w) (m := 2) (r := 1) (by decide) (by decide)
  rw [unr21] at k
  have K := hide k
  clear k
  go_enter Try.func43, Try.ntmps43
  go_wp2_with fail
  refine (K.out _).mono ?_
  rintro e w1 ⟨A, c, rfl, own, hb⟩
  have S1 := own.sl
  have es : same [1, 0] [1, 0] = true := same_yes rfl
  go_wp2_with fail
  refine (equal_yes _ _ 2 c 2 [1, 0] _ (S1.on (by repeat' (first | assumption | with_reducible exact Below.refl _ _ | with_reducible apply Below.drew | with_reducible apply below_drewN | with_reducible apply below_alloc | with_reducible refine below_set ?_ ?_ _ | (simp only [World.size_alloc, World.heap_drewN]; omega) | (simp; omega)))) (Sl.blk 1 2 (e := 3) (by simp only [heap_alloc_get, World.size_alloc]; simp [ints]) rfl (by simp [maxLen]))).mono ?_
  rintro e w2 ⟨rfl, q, rfl⟩
  go_wp2_with fail
  go_ret
  exact ⟨rfl, by repeat' (first | assumption | with_reducible exact Below.refl _ _ | with_reducible apply Below.drew | with_reducible apply below_drewN | with_reducible apply below_alloc | with_reducible refine below_set ?_ ?_ _ | (simp only [World.size_alloc, World.heap_drewN]; omega) | (simp; omega))⟩
end Go.Proofs.Ytkliebhpdcjdgaa
