/-
  slices.ContainsFunc at []int, over a function value that only computes. Conditions: the slice reads as a list of numbers; what the function value answers.
-/
import Derived.Test.YtkliebhpdcjdgaaEq
import Derived.Test.YtkliebhpdcjdgaaPlain
namespace Go.Proofs.Ytkliebhpdcjdgaa
open Go.RowKit

/-- What a function value that captures nothing answers. -/
structure Answers (g : FuncId) (p : Int → Bool) : Prop where
  enters : ∀ (args : Array Value) (W : World), (callFunc g args).run Try.prog W = .ok (.enter g args) W
  does : ∀ (x : Int) (W : World), Calls Try.prog g #[.int .i64 x] W fun e w' => e = .returned (.bool (p x)) ∧ W = w'
theorem enters_of {f : FuncId} {fn : Func} {c : Code} (hf : Try.prog.funcs[f]? = some fn) (hname : (fn.name == "runtime.NumGoroutine") = false) (hb : fn.body = some c) (args : Array Value) (W : World) :
    (callFunc f args).run Try.prog W = .ok (.enter f args) W := by
  have h1 : fn.name ≠ "runtime.NumGoroutine" := by simpa using hname
  simp [callFunc, hf, h1, hb, mark]
/-- p holds of none of the first k. -/
def noneTo (p : Int → Bool) (xs : List Int) (k : Nat) : Bool := okTo (fun j => !p (xs.getD j 0)) k
theorem noneTo_bad {p : Int → Bool} {xs : List Int} {k n : Nat} {x : Int} (hx : xs[k]? = some x) (hp : p x = true) (hk : k < n) : noneTo p xs n = false := okTo_bad (k := k) (by rw [getD_of hx, hp]; rfl) n hk
theorem noneTo_next {p : Int → Bool} {xs : List Int} {k : Nat} {x : Int} (h : noneTo p xs k = true) (hx : xs[k]? = some x) (hp : p x = false) : noneTo p xs (k + 1) = true := okTo_next h (by rw [getD_of hx, hp]; rfl)
/-- An index, or less than nought if there is none. -/
def Index (p : Int → Bool) (xs : List Int) (n : Nat) (w : World) (e : Ending) (w' : World) : Prop := ∃ i : Int, e = .returned (.int .i64 i) ∧ (if noneTo p xs n = true then i = -1 else 0 ≤ i) ∧ Below w.heap.size w w'

set_option maxRecDepth 20000 in
set_option maxHeartbeats 800000 in
theorem indexFunc_ints (g : FuncId) (p : Int → Bool) (hg : Answers g p) (A : Option Addr) (n c : Nat) (xs : List Int) (w : World) (h : Si w A n c xs) :
    Calls Try.prog 93 #[.slice A n c, .func (.func g) #[] #[]] w (Index p xs n w) := by
  have hm := h.len_max
  have eg := hg.enters
  have HG := hide hg.does
  clear hg
  go_enter Try.func93, Try.ntmps93
  go_wp2
  go_loopw [8] (fun i wr => ∃ k : Nat, k ≤ n ∧ i = .int .i64 k ∧ noneTo p xs k = true ∧ Below w.heap.size w wr) (fun i _ => n - (intOf i).toNat)
  case atStart => exact ⟨0, Nat.zero_le _, rfl, rfl, Below.refl _ _⟩
  case round =>
    obtain ⟨k, hk, rfl, hno, hwr⟩ := hrel
    have HNO := hide hno
    clear hno
    by_cases hlt : k < n
    · obtain ⟨ad, x, rfl, hb, hx, hc⟩ := (h.on hwr).icell hlt
      have HX := hide hx
      clear hx
      cases hp : p x
      · have HP := hide (show (!p (xs.getD k 0)) = true by rw [getD_of HX.out, hp]; rfl)
        have HPX := hide hp
        clear hp
        go_wp2_with fail
        refine (HG.out x _).mono ?_
        rintro e w' ⟨rfl, rfl⟩
        rw [HPX.out]
        go_wp2_with fail
        go_roundw
        case rel => exact ⟨k + 1, by omega, by go_num, okTo_next HNO.out HP.out, by repeat' (first | assumption | with_reducible exact Below.refl _ _ | with_reducible apply Below.drew | with_reducible apply below_drewN | with_reducible apply below_alloc | with_reducible refine below_set ?_ ?_ _ | (simp only [World.size_alloc, World.heap_drewN]; omega) | (simp; omega))⟩
        case measure => simp [intOf]; omega
      · have HP := hide (show (!p (xs.getD k 0)) = false by rw [getD_of HX.out, hp]; rfl)
        have HPX := hide hp
        clear hp
        go_wp2_with fail
        refine (HG.out x _).mono ?_
        rintro e w' ⟨rfl, rfl⟩
        rw [HPX.out]
        go_wp2_with fail
        go_ret
        refine ⟨k, rfl, ?_, hwr⟩
        rw [if_neg (by rw [show noneTo p xs n = false from okTo_bad HP.out n hlt]; simp)]
        omega
    · obtain rfl : k = n := by omega
      go_wp2_with fail
      go_ret
      exact ⟨-1, rfl, by rw [if_pos HNO.out], hwr⟩

set_option maxHeartbeats 800000 in
theorem containsFunc_ints (g : FuncId) (p : Int → Bool) (hg : Answers g p) (A : Option Addr) (n c : Nat) (xs : List Int) (w : World) (h : Si w A n c xs) {b : Bool} (hb : (!noneTo p xs n) = b) :
    Calls Try.prog 53 #[.slice A n c, .func (.func g) #[] #[]] w fun e w' => e = .returned (.bool b) ∧ Below w.heap.size w w' := by
  have HB := hide hb
  clear hb
  go_enter Try.func53, Try.ntmps53
  go_wp2_with fail
  refine (indexFunc_ints g p hg A n c xs _ h).mono ?_
  rintro e w1 ⟨i, rfl, hi, hb1⟩
  cases hp : noneTo p xs n
  · rw [if_neg (by rw [hp]; simp)] at hi
    have hB := HB.out
    rw [hp] at hB
    subst hB
    go_wp2_with fail
    go_ret
    exact ⟨rfl, hb1⟩
  · rw [if_pos hp] at hi
    subst hi
    have hB := HB.out
    rw [hp] at hB
    subst hB
    go_wp2_with fail
    go_ret
    exact ⟨rfl, hb1⟩
end Go.Proofs.Ytkliebhpdcjdgaa
