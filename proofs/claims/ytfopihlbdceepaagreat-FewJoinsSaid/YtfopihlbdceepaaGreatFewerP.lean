/-
  culref.Fewer: what its parts make of the counters; its second function value. Conditions: none.
-/
import Derived.Test.YtfopihlbdceepaaGreatLessC
import Derived.Test.YtfopihlbdceepaaGreatSortR
import Derived.Test.YtfopihlbdceepaaGreatOrdM
import Derived.Deep.RegionHeld
namespace Go.Proofs.YtfopihlbdceepaaGreat
open Go.RowKit

/-- Of the first i each has so much less. -/
def subTo (d : Int) (i : Nat) (m : List Ct) : List Ct := m.mapIdx fun j p => if j < i then (p.1, p.2 - d) else p
theorem subTo_len (d : Int) (i : Nat) (m : List Ct) : (subTo d i m).length = m.length := by simp [subTo]
theorem subTo_zero (d : Int) (m : List Ct) : subTo d 0 m = m := by
  unfold subTo
  apply List.ext_getElem?
  intro j
  simp
theorem subTo_at {d : Int} {i : Nat} {m : List Ct} {p : Ct} (h : m[i]? = some p) : (subTo d i m)[i]? = some p := by simp [subTo, h]
theorem subTo_next {d : Int} {i : Nat} {m : List Ct} {p : Ct} (h : m[i]? = some p) : (subTo d i m).set i (p.1, p.2 - d) = subTo d (i + 1) m := by
  have hi := (List.getElem?_eq_some_iff.1 h).1
  apply List.ext_getElem?
  intro j
  by_cases e : i = j
  · subst e
    rw [List.getElem?_set_self (by rw [subTo_len]; exact hi)]
    simp [subTo, h]
  · rw [List.getElem?_set_ne e]
    simp only [subTo, List.getElem?_mapIdx]
    by_cases hj : j < i
    · simp [hj, show j < i + 1 by omega]
    · simp [hj, show ¬ j < i + 1 by omega]
theorem subTo_all {d : Int} {n : Nat} {m : List Ct} (h : m.length = n) : (subTo d n m).filter (fun x => !decide (x.2 ≤ 0)) = lessC d m := by
  have e : subTo d n m = m.map fun p => (p.1, p.2 - d) := by
    apply List.ext_getElem?
    intro j
    simp only [subTo, List.getElem?_mapIdx, List.getElem?_map]
    cases hj : m[j]? with
    | none => rfl
    | some p =>
      have := (List.getElem?_eq_some_iff.1 hj).1
      simp [show j < n by omega]
  rw [e, lessC, List.filter_map]
  congr 1
  apply List.filter_congr
  intro p _
  by_cases hp : d < p.2
  · simp [hp] <;> omega
  · simp [hp] <;> omega
theorem set1C {xs : List Ct} {k : Nat} {x : Ct} (v : Int) (h : xs[k]? = some x) : (prs xs).set (k * 2 + 1) (.int .i64 v) = prs (xs.set k (x.1, v)) := by
  have h1 := set2C xs (k := k) (x.1, v) (List.getElem?_eq_some_iff.1 h).1
  rw [← h1, set_same (prs_at0 h)]
/-- Fewer's second function value. -/
theorem few2_any : AnswersC 25 fun x => decide (x.2 ≤ 0) where
  enters := entersC Tryz.func25 (by kernel_rfl) rfl
  does := fun x w => by
    obtain ⟨x1, x2⟩ := x
    obtain ⟨B, hB⟩ : ∃ B, decide (x2 ≤ 0) = B := ⟨_, rfl⟩
    show Calls Tryz.prog 25 #[.agg #[.int .i64 x1, .int .i64 x2]] w fun e w' => e = .returned (.bool (decide (x2 ≤ 0))) ∧ Below w.heap.size w w'
    rw [hB]
    go_enter Tryz.func25, Tryz.ntmps25
    go_wp2_with fail
    go_ret
    exact ⟨rfl, by repeat' (first | assumption | with_reducible exact Below.refl _ _ | with_reducible apply Below.drew | with_reducible apply below_drewN | with_reducible apply below_alloc | with_reducible refine below_set ?_ ?_ _ | (simp only [World.size_alloc, World.heap_drewN]; omega) | (simp; omega))⟩
end Go.Proofs.YtfopihlbdceepaaGreat
