/-
  slices.Equal at []bool, of the same lists. Condition: both slices read as that list.
-/
import Derived.Test.YtjmkejindmgckaaProg
import Derived.Test.YtjmkejindmgckaaBools
import Derived.Deep.QuietTactic
import Derived.BigQuiet
namespace Go.Proofs.Ytjmkejindmgckaa
open Go.RowKit

set_option maxHeartbeats 800000 in
theorem equalB_yes (A1 A2 : Option Addr) (n c1 c2 : Nat) (xs : List Bool) (w : World) (h1 : Sb w A1 n c1 xs) (h2 : Sb w A2 n c2 xs) :
    Calls Try.prog 71 #[.slice A1 n c1, .slice A2 n c2] w (Quiet w (.bool true)) := by
  have hm1 := h1.len_max
  go_enter Try.func71, Try.ntmps71
  go_wp2
  go_loopw [13] (fun i wr => ∃ k : Nat, k ≤ n ∧ i = .int .i64 k ∧ ∃ q, wr = w.drewN q) (fun i _ => n - (intOf i).toNat)
  case atStart => exact ⟨0, Nat.zero_le _, rfl, 0, rfl⟩
  case round =>
    obtain ⟨k, hk, rfl, q, rfl⟩ := hrel
    by_cases hlt : k < n
    · obtain ⟨ad, x, rfl, hbx, hx, hcx⟩ := h1.bcell hlt
      obtain ⟨ae, y, rfl, hby, hy, hcy⟩ := h2.bcell hlt
      rw [hx] at hy
      injection hy with hy
      subst hy
      clear hx
      go_wp2
      go_quiet (fail)
      go_wp2
      go_roundw
      case rel => exact ⟨k + 1, by omega, by go_num, _, rfl⟩
      case measure => simp [intOf]; omega
    · obtain rfl : k = n := by omega
      go_wp2
      go_ret
      exact ⟨rfl, q, rfl⟩
end Go.Proofs.Ytjmkejindmgckaa
