/-
  slices.Equal at []int. Condition: both slices read as lists of numbers.
-/
import Derived.Test.YtkliebhpdcjdgaaDoorProg
import Derived.Test.YtkliebhpdcjdgaaDoorMem
import Derived.WalkKit
import Derived.WalkSpells
import Derived.Deep.QuietTactic
import Derived.BigQuiet
namespace Go.Proofs.YtkliebhpdcjdgaaDoor
open Go.RowKit

/-- Are two lists the same? -/
def same (xs ys : List Int) : Bool := decide (xs = ys)
theorem same_yes {xs ys : List Int} (h : xs = ys) : same xs ys = true := by simp [same, h]
theorem same_no {xs ys : List Int} (h : xs ≠ ys) : same xs ys = false := by simp [same, h]
theorem quiet_mk {w w' : World} {v v' : Value} {q : Nat} (h : v' = v) (hw : w' = w.drewN q) : Quiet w v (.returned v') w' := ⟨by rw [h], q, hw⟩
theorem take_next {xs ys : List Int} {k : Nat} {x y : Int} (h : xs.take k = ys.take k) (hx : xs[k]? = some x) (hy : ys[k]? = some y) (e : x = y) : xs.take (k + 1) = ys.take (k + 1) := by
  rw [List.take_add_one, List.take_add_one, h, hx, hy, e]
theorem differ_at {xs ys : List Int} {k : Nat} {x y : Int} (hx : xs[k]? = some x) (hy : ys[k]? = some y) (e : ¬ x = y) : xs ≠ ys := by
  rintro rfl; rw [hx] at hy; exact e (by injection hy)

set_option maxHeartbeats 400000 in
theorem equal_ints (A1 A2 : Option Addr) (n1 c1 n2 c2 : Nat) (xs ys : List Int) (w : World) (h1 : Si w A1 n1 c1 xs) (h2 : Si w A2 n2 c2 ys) :
    Calls Tryd.prog 37 #[.slice A1 n1 c1, .slice A2 n2 c2] w (Quiet w (.bool (same xs ys))) := by
  have hm1 := h1.len_max
  have hm2 := h2.len_max
  have l1 := h1.ilen
  have l2 := h2.ilen
  have L1 := hide l1
  have L2 := hide l2
  clear l1 l2
  go_enter Tryd.func37, Tryd.ntmps37
  by_cases hn : n1 = n2
  · subst hn
    go_wp2
    go_loopw [13] (fun i wr => ∃ k : Nat, k ≤ n1 ∧ i = .int .i64 k ∧ xs.take k = ys.take k ∧ ∃ q, wr = w.drewN q) (fun i _ => n1 - (intOf i).toNat)
    case atStart => exact ⟨0, Nat.zero_le _, rfl, by simp, 0, rfl⟩
    case round =>
      obtain ⟨k, hk, rfl, htk, q, rfl⟩ := hrel
      have HT := hide htk
      clear htk
      by_cases hlt : k < n1
      · obtain ⟨ad, x, rfl, hb, hx, hc⟩ := h1.icell hlt
        obtain ⟨ae, y, rfl, hb2, hy, hd⟩ := h2.icell hlt
        have HX := hide hx
        have HY := hide hy
        clear hx hy
        by_cases hxy : x = y
        · have t1 : (x != y) = false := by simp [hxy]
          have HXY := hide hxy
          clear hxy
          go_wp2
          go_quiet (fail)
          go_wp2
          go_roundw
          case rel => exact ⟨k + 1, by omega, by go_num, take_next HT.out HX.out HY.out HXY.out, _, rfl⟩
          case measure => simp [intOf]; omega
        · have t1 : (x != y) = true := by simp [hxy]
          go_wp2
          go_quiet (fail)
          go_wp2
          go_ret
          exact quiet_mk (by rw [same_no (differ_at HX.out HY.out hxy)]; rfl) (World.drewN_drewN _ _ _)
      · go_wp2
        go_ret
        refine quiet_mk (q := q) ?_ rfl
        have h := HT.out
        rw [List.take_of_length_le (by have := L1.out; omega), List.take_of_length_le (by have := L2.out; omega)] at h
        rw [same_yes h]; rfl
  · go_wp2
    go_ret
    refine quiet_mk (q := 0) ?_ rfl
    rw [same_no (fun e => hn (by rw [← L1.out, ← L2.out, e]))]; rfl
#print axioms equal_ints
theorem equal_yes (A1 A2 : Option Addr) (n c1 c2 : Nat) (xs : List Int) (w : World) (h1 : Si w A1 n c1 xs) (h2 : Si w A2 n c2 xs) :
    Calls Tryd.prog 37 #[.slice A1 n c1, .slice A2 n c2] w (Quiet w (.bool true)) :=
  (equal_ints A1 A2 n c1 n c2 xs xs w h1 h2).mono fun e w' h => by rw [same_yes rfl] at h; exact h
end Go.Proofs.YtkliebhpdcjdgaaDoor
