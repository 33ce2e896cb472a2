/-
  slices.Clone at []int. Condition: the slice reads as a list of numbers and takes at most 2^47 bytes.
-/
import Derived.Test.YtkliebhpdcjdgaaProg
import Derived.Test.YtkliebhpdcjdgaaApp
import Derived.WalkKit
import Derived.WalkSpells
namespace Go.Proofs.Ytkliebhpdcjdgaa
open Go.RowKit

theorem T_int : ElemT Try.prog 22 3 (.int .i64 0) 1 8 := ⟨Try.underlying22, by kernel_rfl, rfl, by decide⟩

/-- What a clone leaves: a row of the call's own that holds the same cells. -/
def Cloned (w : World) (e : TypeId) (size n : Nat) (xs : List Value) (v : Value) (w' : World) : Prop := ∃ A c, v = .slice A n c ∧ Own w' w.heap.size e size A n c xs

set_option maxHeartbeats 400000 in
theorem clone_ints (A : Option Addr) (n c : Nat) (xs : List Int) (w : World) (h : Si w A n c xs) (hr : n * 8 ≤ 140737488355328) :
    Calls Try.prog 14 #[.slice A n c] w (Ret w (Cloned w 3 1 n (ints xs))) := by
  have hm := h.len_max
  rcases A with _ | ad
  · have hc := h.nul rfl
    subst hc
    have hn : n = 0 := by have := h.cap; omega
    subst hn
    have hx : xs = [] := List.eq_nil_of_length_eq_zero h.ilen
    subst hx
    go_enter Try.func14, Try.ntmps14
    have r := fun w => Lib.run_eql_slice_nil (P := Try.prog) w 22 3 none 0 0 0 0 Try.underlying22
    go_wp2
    go_ret
    exact ⟨_, rfl, Below.refl _ _, none, 0, rfl, Own.nil _ _ _ _⟩
  · have r := fun w => Lib.run_eql_slice_nil (P := Try.prog) w 22 3 (some ad) n c 0 0 Try.underlying22
    go_enter Try.func14, Try.ntmps14
    go_wp2_with (at_builtin; refine wpList_append_sl T_int rfl _ _ rfl (by rfl) (by rfl) (Own.new w w.heap.size 3 1 0 #[] (Nat.le_refl _) (Nat.zero_le _) rfl) (h.alloc (Nat.le_refl _) _) (ints_one _) (by simp only [maxLen]; omega) (by omega) (by simp) ?_; intro A' c' w' ap)
    go_ret
    have hb : Below w.heap.size w w' := ((Below.refl _ w).alloc (Nat.le_refl _) _).trans ap.below
    exact ⟨_, rfl, hb, A', c', by simp, by simpa using ap.own⟩
end Go.Proofs.Ytkliebhpdcjdgaa
