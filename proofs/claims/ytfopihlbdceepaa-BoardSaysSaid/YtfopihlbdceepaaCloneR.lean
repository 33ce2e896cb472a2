/-
  slices.Clone at a slice of rules: the walk. Conditions: the slice reads as a list of rules; its length.
-/
import Derived.Test.YtfopihlbdceepaaInsR
import Derived.Test.YtfopihlbdceepaaBoard6
namespace Go.Proofs.Ytfopihlbdceepaa
open Go.RowKit

set_option maxHeartbeats 800000 in
theorem cloneR {A : Option Addr} {n c : Nat} {xs : List Rl} {w : World} (h : Sl w w.heap.size 3 A n c (rls xs)) (hr : n * 32 ≤ 140737488355328) :
    Calls Try.prog 23 #[.slice A n c] w fun e w' => ∃ A' c', e = .returned (.slice A' n c') ∧ Own w' w.heap.size 24 3 A' n c' (rls xs) ∧ Below w.heap.size w w' := by
  have hm := h.len_max
  rcases A with _ | ad
  · have hc := h.nul rfl
    subst hc
    have hn : n = 0 := by have := h.cap; omega
    subst hn
    have hx : xs = [] := List.eq_nil_of_length_eq_zero h.rlen
    subst hx
    go_enter Try.func23, Try.ntmps23
    have r := fun w => Lib.run_eql_slice_nil (P := Try.prog) w 22 24 none 0 0 0 0 Try.underlying22
    go_wp2
    go_ret
    exact ⟨none, 0, rfl, Own.nil _ _ _ _, Below.refl _ _⟩
  · have r := fun w => Lib.run_eql_slice_nil (P := Try.prog) w 22 24 (some ad) n c 0 0 Try.underlying22
    go_enter Try.func23, Try.ntmps23
    go_wp2_with (at_builtin; refine wpList_append_sl T_rule rfl _ _ rfl (by rfl) (by rfl) (Own.new w w.heap.size 24 3 0 #[] (Nat.le_refl _) (Nat.zero_le _) rfl) (h.alloc (Nat.le_refl _) _) (rls_one _) (by simp only [maxLen]; omega) (by omega) (by simp) ?_; intro A' c' w' ap)
    go_ret
    have hb : Below w.heap.size w w' := ((Below.refl _ w).alloc (Nat.le_refl _) _).trans ap.below
    exact ⟨A', c', by simp, by simpa using ap.own, hb⟩
end Go.Proofs.Ytfopihlbdceepaa
