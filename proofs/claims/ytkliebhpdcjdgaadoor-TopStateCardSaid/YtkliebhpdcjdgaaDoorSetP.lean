/-
  What Set answers, as a plain matter. No program is named here.
-/
import Derived.Test.YtkliebhpdcjdgaaDoorMarkP
namespace Go.Proofs.YtkliebhpdcjdgaaDoor

def drawOk (n : Int) : Bool := decide (0 ≤ n ∧ n ≤ 72057594037927935)
/-- What goes wrong, of pairs that may be. -/
def setE (ps : List Pr) (m : Mk) : Int := if drawOk m.1 && drawOk m.2.1 then (if 40 < (setAll ps m).length then 2 else 0) else 1
theorem setE_arg {ps : List Pr} {m : Mk} (h : (drawOk m.1 && drawOk m.2.1) = false) : setE ps m = 1 := by unfold setE; rw [h]; rfl
theorem setE_large {ps : List Pr} {m : Mk} (h : (drawOk m.1 && drawOk m.2.1) = true) (h2 : 40 < (setAll ps m).length) : setE ps m = 2 := by unfold setE; rw [h, if_pos rfl, if_pos h2]
theorem setE_ok {ps : List Pr} {m : Mk} (h : (drawOk m.1 && drawOk m.2.1) = true) (h2 : ¬ 40 < (setAll ps m).length) : setE ps m = 0 := by unfold setE; rw [h, if_pos rfl, if_neg h2]
theorem isMark_th {p : Pr} (h : p.1 = thName) : isMark p = true := by unfold isMark; rw [decide_eq_true h]; rfl
theorem isMark_rv {p : Pr} (h : p.1 = rvName) : isMark p = true := by unfold isMark; rw [decide_eq_true h, Bool.or_true]
theorem isMark_no {p : Pr} (h : ¬ p.1 = thName) (h2 : ¬ p.1 = rvName) : isMark p = false := by unfold isMark; rw [decide_eq_false h, decide_eq_false h2]; rfl
def thPr (m : Mk) : Pr := (thName, ⟨(thS (digs 14 m.1.toNat)).toArray⟩)
def rvPr (m : Mk) : Pr := (rvName, ⟨(digs 14 m.2.1.toNat).toArray⟩)
theorem heads_is (a b : Int) (x y : Bool) : heads (a, b, x, y) = (bif x then [thPr (a, b, x, y)] else []) ++ (bif y then [rvPr (a, b, x, y)] else []) := rfl
theorem rest_keep {ps : List Pr} {k : Nat} {p : Pr} (hp : ps[k]? = some p) (h : isMark p = false) : rest (ps.take (k + 1)) = rest (ps.take k) ++ [p] := by
  rw [rest_snoc hp, h]; rfl
theorem rest_skip {ps : List Pr} {k : Nat} {p : Pr} (hp : ps[k]? = some p) (h : isMark p = true) : rest (ps.take (k + 1)) = rest (ps.take k) := by
  rw [rest_snoc hp, h]; simp
theorem rest_all {ps : List Pr} {n : Nat} (h : ps.length = n) : rest (ps.take n) = rest ps := by rw [← h, List.take_length]
theorem rest_take_len (ps : List Pr) (k : Nat) : (rest (ps.take k)).length ≤ k := Nat.le_trans (rest_len _) (by rw [List.length_take]; omega)
end Go.Proofs.YtkliebhpdcjdgaaDoor
