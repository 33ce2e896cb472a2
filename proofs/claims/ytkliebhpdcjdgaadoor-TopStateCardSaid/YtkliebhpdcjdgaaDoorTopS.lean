/-
  What the tops' laws ask ahead: begun, sum, a number held within bounds. Conditions: those that each names.
-/
import Derived.Test.YtkliebhpdcjdgaaDoorDigit5S
import Derived.Test.YtkliebhpdcjdgaaDoorCumP
import Derived.Test.YtkliebhpdcjdgaaDoorWalker
import Derived.Test.YtkliebhpdcjdgaaDoorEq
namespace Go.Proofs.YtkliebhpdcjdgaaDoor
open Go.RowKit

theorem within_m {m : Nat} (m1 : 1 ≤ m) (m2 : m ≤ 1000000) (x : Int) (w : World) : Calls Tryd.prog 8 #[.int .i64 x, .int .i64 m] w fun e w' => (∃ p : Nat, p < m ∧ e = .returned (.int .i64 p)) ∧ w = w' := by
  obtain ⟨q, hq⟩ : ∃ q : Nat, IntKind.u64.wrap x = (q : Int) := ⟨(x % 18446744073709551616).toNat, by rw [IntKind.wrap_u64]; omega⟩
  obtain ⟨p, hp, hp9⟩ : ∃ p : Nat, q % m = p ∧ p < m := ⟨_, rfl, Nat.mod_lt _ (by omega)⟩
  have hr : (q : Int) % (m : Int) = (p : Int) := by rw [← hp]; exact (Int.natCast_emod q m).symm
  have h9 : IntKind.u64.wrap (m : Int) = m := by rw [IntKind.wrap_u64]; omega
  have hq0 : IntKind.i64.wrap (p : Int) = p := IntWalk.i64_in _ (by omega)
  have hm0 : ¬ (m : Int) = 0 := by omega
  have hb0 : ((m : Int) == 0) = false := by simpa using hm0
  clear hp
  have HR := hide hr
  clear hr
  go_enter Tryd.func8, Tryd.ntmps8
  go_wp2_with fail
  go_ret
  exact ⟨⟨p, hp9, by show Ending.returned (Value.int .i64 (wrap64 ((q : Int) % (m : Int)))) = _; rw [HR.out, show wrap64 (p : Int) = p by unfold wrap64; omega]⟩, rfl⟩

theorem unr21 : casts (unr (List.range 2) 2 1) = [1, 0] := by decide
set_option maxRecDepth 20000 in
set_option maxHeartbeats 1600000 in
theorem begun_ok (w : World) : Calls Tryd.prog 7 #[] w fun e w' => e = .returned (.bool true) ∧ Below w.heap.size w w' := by
  have k := fun w => order_ok (w := w) (m := 2) (r := 1) (by decide) (by decide)
  rw [unr21] at k
  have K := hide k
  clear k
  go_enter Tryd.func7, Tryd.ntmps7
  go_wp2_with fail
  refine (K.out _).mono ?_
  rintro e w1 ⟨A, c, rfl, own, hb⟩
  have S1 := own.sl
  have es : same [1, 0] [1, 0] = true := same_yes rfl
  go_wp2_with fail
  refine (equal_yes _ _ 2 c 2 [1, 0] _ (S1.on (by repeat' (first | assumption | with_reducible exact Below.refl _ _ | with_reducible apply Below.drew | with_reducible apply below_drewN | with_reducible apply below_alloc | with_reducible refine below_set ?_ ?_ _ | (simp only [World.size_alloc, World.heap_drewN]; omega) | (simp; omega)))) (Sl.blk 1 2 (e := 3) (by simp only [heap_alloc_get, World.size_alloc]; simp [ints]) rfl (by simp [maxLen]))).mono ?_
  rintro e w2 ⟨rfl, q, rfl⟩
  go_wp2_with fail
  go_ret
  exact ⟨rfl, by repeat' (first | assumption | with_reducible exact Below.refl _ _ | with_reducible apply Below.drew | with_reducible apply below_drewN | with_reducible apply below_alloc | with_reducible refine below_set ?_ ?_ _ | (simp only [World.size_alloc, World.heap_drewN]; omega) | (simp; omega))⟩
end Go.Proofs.YtkliebhpdcjdgaaDoor
