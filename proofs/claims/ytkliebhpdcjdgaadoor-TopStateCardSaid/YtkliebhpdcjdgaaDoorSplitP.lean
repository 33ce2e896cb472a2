/-
  Texts cut at one byte, as a plain matter of lists: the pieces; before and behind the first. No program is named here.
-/
import Derived.Test.YtkliebhpdcjdgaaDoorPlain
import Derived.Lib.SplitLaws
namespace Go.Proofs.YtkliebhpdcjdgaaDoor
open Go.Lib

/-- The pieces between the bytes c. -/
def pieces (c : UInt8) : List UInt8 → List (List UInt8)
  | [] => [[]]
  | b :: l => if b = c then [] :: pieces c l else (b :: (pieces c l).headD []) :: (pieces c l).tail
theorem pieces_ne (c : UInt8) : ∀ l, pieces c l ≠ []
  | [] => by simp [pieces]
  | b :: l => by unfold pieces; split <;> simp
theorem index_cons_eq (c : UInt8) (l : List UInt8) : index (c :: l) [c] = 0 := by rw [index]; simp [List.isPrefixOf]
theorem index_cons_ne {b c : UInt8} (l : List UInt8) (h : b ≠ c) : index (b :: l) [c] = if index l [c] = -1 then -1 else index l [c] + 1 := by
  have hp : ([c] : List UInt8).isPrefixOf (b :: l) = false := by simp [List.isPrefixOf, Ne.symm h]
  rw [index, hp]; simp
theorem split_is (c : UInt8) : ∀ l, split l [c] = pieces c l
  | [] => by
    have h : index ([] : List UInt8) [c] = -1 := by simp [index]
    unfold split
    rw [count_miss h]; rfl
  | b :: l => by
    have ih := split_is c l
    by_cases e : b = c
    · subst e
      unfold split pieces
      rw [if_pos rfl, count_cons_eq, Nat.add_comm, splitK, index_cons_eq]
      simp only [Int.toNat_zero, List.length_singleton, Nat.zero_add, List.take_zero, List.drop_succ_cons, List.drop_zero]
      rw [← ih]; rfl
    · unfold split pieces
      rw [if_neg e, count_cons_ne b c l e]
      have hix := index_cons_ne l e
      unfold split at ih
      by_cases hm : index l [c] = -1
      · rw [if_pos hm] at hix
        rw [count_miss hm] at ih ⊢
        rw [← ih]; rfl
      · rw [if_neg hm] at hix
        have hge := index_ge l [c]
        obtain ⟨j, hj⟩ : ∃ j : Nat, index l [c] = j := ⟨(index l [c]).toNat, by omega⟩
        have hc : count l [c] = (count (l.drop (j + 1)) [c]) + 1 := by rw [count_hit (by simp) hj]; simp; omega
        rw [hc] at ih ⊢
        rw [hj] at hix
        rw [splitK, hj] at ih
        rw [splitK, hix]
        have t1 : (((j : Nat) : Int) == -1) = false := by rw [beq_eq_false_iff_ne]; omega
        have t2 : (((j : Nat) : Int) + 1 == -1) = false := by rw [beq_eq_false_iff_ne]; omega
        have t3 : (((j : Nat) : Int) + 1).toNat = j + 1 := by omega
        rw [t1] at ih
        rw [t2, t3]
        simp only [Int.toNat_natCast, Bool.false_eq_true, if_false, Nat.add_zero, List.length_singleton] at ih ⊢
        rw [← ih]
        simp
/-- Before the first byte c, and behind it. -/
def cutB (c : UInt8) : List UInt8 → List UInt8
  | [] => []
  | b :: l => if b = c then [] else b :: cutB c l
def cutA (c : UInt8) : List UInt8 → List UInt8
  | [] => []
  | b :: l => if b = c then l else cutA c l
def cutOk (c : UInt8) (l : List UInt8) : Bool := l.contains c
theorem cut_is (c : UInt8) : ∀ l, cut l [c] = (cutB c l, cutA c l, cutOk c l)
  | [] => by unfold cut; simp [index, cutB, cutA, cutOk]
  | b :: l => by
    have ih := cut_is c l
    by_cases e : b = c
    · subst e
      unfold cut
      rw [index_cons_eq]
      simp [cutB, cutA, cutOk]
    · have hix := index_cons_ne l e
      have hok : cutOk c (b :: l) = cutOk c l := by
        unfold cutOk
        rw [List.contains_cons, show (c == b) = false by simpa using Ne.symm e]; rfl
      unfold cut at ih ⊢
      rw [hix, hok]
      by_cases hm : index l [c] = -1
      · rw [hm] at ih
        rw [if_pos hm]
        simp only [show ¬ (0 : Int) ≤ -1 by omega, if_false, Prod.mk.injEq] at ih ⊢
        rw [cutB, cutA, if_neg e, if_neg e, ← ih.1, ← ih.2.1]
        exact ⟨rfl, rfl, ih.2.2⟩
      · have hge := index_ge l [c]
        obtain ⟨j, hj⟩ : ∃ j : Nat, index l [c] = j := ⟨(index l [c]).toNat, by omega⟩
        rw [if_neg hm, hj]
        rw [hj, if_pos (by omega)] at ih
        rw [if_pos (by omega)]
        simp only [Prod.mk.injEq, Int.toNat_natCast, List.length_singleton] at ih ⊢
        rw [cutB, cutA, if_neg e, if_neg e, ← ih.1, ← ih.2.1, show ((j : Int) + 1).toNat = j + 1 by omega]
        exact ⟨rfl, rfl, ih.2.2⟩
end Go.Proofs.YtkliebhpdcjdgaaDoor
