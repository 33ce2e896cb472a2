/-
  slices.Equal at []Rule, of equal rows: the walk. Condition: both slices read as the same list of rules.
-/
import Derived.Test.YtfopihlbdceepaaBoard7
import Derived.Test.YtfopihlbdceepaaEqP
namespace Go.Proofs.Ytfopihlbdceepaa
open Go.RowKit

set_option maxHeartbeats 800000 in
theorem equalR_yes (A1 A2 : Option Addr) (n c1 c2 : Nat) (xs : List Rl) (w : World) (h1 : Sr w A1 n c1 xs) (h2 : Sr w A2 n c2 xs) :
    Calls Try.prog 11 #[.slice A1 n c1, .slice A2 n c2] w (Quiet w (.bool true)) := by
  have hm1 := h1.len_max
  go_enter Try.func11, Try.ntmps11
  go_wp2
  go_loopw [13] (fun i wr => ∃ k : Nat, k ≤ n ∧ i = .int .i64 k ∧ ∃ q, wr = w.drewN q) (fun i _ => n - (intOf i).toNat)
  case atStart => exact ⟨0, Nat.zero_le _, rfl, 0, rfl⟩
  case round =>
    obtain ⟨k, hk, rfl, q, rfl⟩ := hrel
    by_cases hlt : k < n
    · obtain ⟨ad, x, rfl, hbx, hx, hcx, hdx, hex⟩ := h1.rcell hlt
      obtain ⟨ae, y, rfl, hby, hy, hcy, hdy, hey⟩ := h2.rcell hlt
      rw [hx] at hy
      injection hy with hy
      subst hy
      clear hx
      obtain ⟨u, l, m⟩ := x
      dsimp only at hcx hdx hex hcy hdy hey
      have heq : ∀ w, (Op.equalIn 10000 24 (.agg #[.string u, .int .i64 l, .int .i64 m]) (.agg #[.string u, .int .i64 l, .int .i64 m])).run Try.prog w = .ok true w := fun w => by rw [eqR_run]; simp
      go_wp2
      go_quiet (fail)
      go_wp2
      go_roundw
      case rel => exact ⟨k + 1, by omega, by go_num, _, rfl⟩
      case measure => simp [intOf]; omega
    · obtain rfl : k = n := by omega
      go_wp2
      go_ret
      exact ⟨rfl, q, rfl⟩
end Go.Proofs.Ytfopihlbdceepaa
