/-
  slices.Equal at []api.Counter and culref.SameFew, of equals: the walks. Condition: both slices read as the same list of counters.
-/
import Derived.Test.YtfopihlbdceepaaGreatFew2
import Derived.BigQuiet
namespace Go.Proofs.YtfopihlbdceepaaGreat
open Go.RowKit

theorem eqC_run (x y a b : Int) (w : World) : (Op.equalIn 10000 40 (.agg #[.int .i64 x, .int .i64 y]) (.agg #[.int .i64 a, .int .i64 b])).run Tryz.prog w = .ok ((x == a) && (y == b)) w := by
  have u1 := Tryz.underlying3
  have a1 := Tryz.isAgg3
  have z1 := Tryz.sizeOf3
  have hS : Tryz.prog.underlying 40 = some (.struct (Tryz.prog.fieldsOf 40)) := by kernel_rfl
  rw [show (10000 : Nat) = 9999 + 1 from rfl, run_equalIn_agg w 9999 40 _ _ hS (by kernel_rfl)]
  simp only [Program.fieldsOf, Tryz.underlying40]
  go_simp
  by_cases h2 : x = a <;> by_cases h3 : y = b <;> simp [h2, h3]
section
variable {A1 A2 : Option Addr} {n c1 c2 : Nat} {xs : List Ct} {w : World} {K L : Int}
set_option maxHeartbeats 800000 in
theorem equalC_yes (h1 : Sp w A1 n c1 xs) (h2 : Sp w A2 n c2 xs) :
    Calls Tryz.prog 19 #[.slice A1 n c1, .slice A2 n c2] w (Quiet w (.bool true)) := by
  have hm1 := h1.len_max
  go_enter Tryz.func19, Tryz.ntmps19
  go_wp2
  go_loopw [13] (fun i wr => ∃ k : Nat, k ≤ n ∧ i = .int .i64 k ∧ ∃ q, wr = w.drewN q) (fun i _ => n - (intOf i).toNat)
  case atStart => exact ⟨0, Nat.zero_le _, rfl, 0, rfl⟩
  case round =>
    obtain ⟨k, hk, rfl, q, rfl⟩ := hrel
    by_cases hlt : k < n
    · obtain ⟨ad, x, rfl, hbx, hx, hcx, hdx⟩ := h1.pcell hlt
      obtain ⟨ae, y, rfl, hby, hy, hcy, hdy⟩ := h2.pcell hlt
      rw [hx] at hy
      injection hy with hy
      subst hy
      clear hx
      obtain ⟨l, m⟩ := x
      dsimp only at hcx hdx hcy hdy
      have heq : ∀ w, (Op.equalIn 10000 40 (.agg #[.int .i64 l, .int .i64 m]) (.agg #[.int .i64 l, .int .i64 m])).run Tryz.prog w = .ok true w := fun w => by rw [eqC_run]; simp
      go_wp2
      go_quiet (fail)
      go_wp2
      go_roundw
      case rel => exact ⟨k + 1, by omega, by go_num, _, rfl⟩
      case measure => simp [intOf]; omega
    · obtain rfl : k = n := by omega
      go_wp2
      go_ret
      exact ⟨rfl, q, rfl⟩
theorem samef_yes (h1 : Sp w A1 n c1 xs) (h2 : Sp w A2 n c2 xs) :
    Calls Tryz.prog 8 #[.agg #[.int .i64 K, .int .i64 L, .slice A1 n c1], .agg #[.int .i64 K, .int .i64 L, .slice A2 n c2]] w fun e w' => e = .returned (.bool true) ∧ Below w.heap.size w w' := by
  have hb0 : Below w.heap.size w ((w.alloc (.cells #[.int .i64 K, .int .i64 L, .slice A1 n c1] 24)).alloc (.cells #[.int .i64 K, .int .i64 L, .slice A2 n c2] 24)) := by repeat' (first | assumption | with_reducible exact Below.refl _ _ | with_reducible apply Below.drew | with_reducible apply below_drewN | with_reducible apply below_alloc | with_reducible refine below_set ?_ ?_ _ | (simp only [World.size_alloc, World.heap_drewN]; omega) | (simp; omega))
  have t1 : (K == K) = true := by simp
  have t2 : (L == L) = true := by simp
  go_enter Tryz.func8, Tryz.ntmps8
  go_wp2_with fail
  refine (equalC_yes (h1.on hb0) (h2.on hb0)).mono ?_
  rintro e w1 ⟨rfl, q, rfl⟩
  go_wp2_with fail
  go_ret
  exact ⟨rfl, below_drewN hb0 q⟩
end
end Go.Proofs.YtfopihlbdceepaaGreat
