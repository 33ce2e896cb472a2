/-
  The marks of a trace in its pairs, as a plain matter. No program is named here.
-/
import Derived.Test.YtkliebhpdcjdgaaDoorStateP
import Derived.Test.YtkliebhpdcjdgaaDoorHexaP
namespace Go.Proofs.YtkliebhpdcjdgaaDoor

/-- A threshold, a number; is there one? -/
abbrev Mk := Int × Int × Bool × Bool
def noMk : Mk := (0, 0, false, false)
def thName : ByteArray := ⟨#[116, 104]⟩
def rvName : ByteArray := ⟨#[114, 118]⟩
theorem names_differ : ¬ thName = rvName := fun h => by
  have := congrArg (fun s => s.data.toList) h
  simp [thName, rvName] at this
abbrev noPr : Pr := (ByteArray.empty, ByteArray.empty)
/-- One pair more. -/
def mkStep (m : Mk) (p : Pr) : Mk := if p.1 = thName then (thR (bl p.2), m.2.1, true, m.2.2.2) else if p.1 = rvName then (m.1, rvR (bl p.2), m.2.2.1, true) else m
/-- Does a pair say what can be read? -/
def pOk (p : Pr) : Bool := if p.1 = thName then thOk (bl p.2) else if p.1 = rvName then rvOk (bl p.2) else true
def mkTo (ps : List Pr) : Nat → Mk
  | 0 => noMk
  | k + 1 => mkStep (mkTo ps k) (ps.getD k noPr)
def pAll (ps : List Pr) (k : Nat) : Bool := okTo (fun i => pOk (ps.getD i noPr)) k
def mkRes (n : Nat) (ps : List Pr) : Mk := bif pAll ps n then mkTo ps n else noMk
def mkErr (n : Nat) (ps : List Pr) : Int := bif pAll ps n then 0 else 3
theorem mk_bad {n k : Nat} {ps : List Pr} {p : Pr} (hp : ps[k]? = some p) (hk : k < n) (h : pOk p = false) : mkRes n ps = noMk ∧ mkErr n ps = 3 := by
  have : pAll ps n = false := okTo_bad (p := fun i => pOk (ps.getD i noPr)) (k := k) (by rw [getD_of hp]; exact h) n hk
  unfold mkRes mkErr
  rw [this]
  exact ⟨rfl, rfl⟩
theorem mk_all {n : Nat} {ps : List Pr} (h : pAll ps n = true) : mkRes n ps = mkTo ps n ∧ mkErr n ps = 0 := by
  unfold mkRes mkErr
  rw [h]
  exact ⟨rfl, rfl⟩
theorem mkTo_next {ps : List Pr} {k : Nat} {p : Pr} (hp : ps[k]? = some p) : mkTo ps (k + 1) = mkStep (mkTo ps k) p := by rw [mkTo, getD_of hp]
theorem pAll_next {ps : List Pr} {k : Nat} {p : Pr} (hp : ps[k]? = some p) (h : pAll ps k = true) (h2 : pOk p = true) : pAll ps (k + 1) = true := okTo_next h (by rw [getD_of hp]; exact h2)
theorem pOk_th {p : Pr} (h : p.1 = thName) : pOk p = thOk (bl p.2) := if_pos h
theorem pOk_rv {p : Pr} (h : p.1 = rvName) : pOk p = rvOk (bl p.2) := by unfold pOk; rw [if_neg (fun e => names_differ (e.symm.trans h)), if_pos h]
theorem pOk_other {p : Pr} (h : ¬ p.1 = thName) (h2 : ¬ p.1 = rvName) : pOk p = true := by unfold pOk; rw [if_neg h, if_neg h2]
theorem step_th {m : Mk} {p : Pr} (h : p.1 = thName) : mkStep m p = (thR (bl p.2), m.2.1, true, m.2.2.2) := if_pos h
theorem step_rv {m : Mk} {p : Pr} (h : p.1 = rvName) : mkStep m p = (m.1, rvR (bl p.2), m.2.2.1, true) := by unfold mkStep; rw [if_neg (fun e => names_differ (e.symm.trans h)), if_pos h]
theorem step_other {m : Mk} {p : Pr} (h : ¬ p.1 = thName) (h2 : ¬ p.1 = rvName) : mkStep m p = m := by unfold mkStep; rw [if_neg h, if_neg h2]
theorem thR_ge {l : List UInt8} (h : thOk l = true) : 0 ≤ thR l := by unfold thR; rw [h]; simp
theorem rvR_ge {l : List UInt8} (h : rvOk l = true) : 0 ≤ rvR l := by unfold rvR; rw [h]; simp
theorem thR_neg {l : List UInt8} (h : thOk l = false) : thR l = -1 := by unfold thR; rw [h]; rfl
theorem rvR_neg {l : List UInt8} (h : rvOk l = false) : rvR l = -1 := by unfold rvR; rw [h]; rfl
theorem mkStep_ge {m : Mk} {p : Pr} (h1 : 0 ≤ m.1) (h2 : 0 ≤ m.2.1) (hp : pOk p = true) : 0 ≤ (mkStep m p).1 ∧ 0 ≤ (mkStep m p).2.1 := by
  by_cases e : p.1 = thName
  · rw [step_th e]
    rw [pOk_th e] at hp
    exact ⟨thR_ge hp, h2⟩
  · by_cases e2 : p.1 = rvName
    · rw [step_rv e2]
      rw [pOk_rv e2] at hp
      exact ⟨h1, rvR_ge hp⟩
    · rw [step_other e e2]
      exact ⟨h1, h2⟩
theorem mkTo_ge {ps : List Pr} : ∀ k, pAll ps k = true → 0 ≤ (mkTo ps k).1 ∧ 0 ≤ (mkTo ps k).2.1
  | 0, _ => ⟨Int.le_refl _, Int.le_refl _⟩
  | k + 1, h => by
    have h1 : pAll ps k = true := okTo_of k fun i hi => okTo_at (k + 1) h (by omega)
    have h2 := okTo_at (k + 1) h (Nat.lt_succ_self k)
    obtain ⟨a, b⟩ := mkTo_ge k h1
    exact mkStep_ge a b h2
/-- Set: the pairs that are no marks; the new ones ahead of them. -/
def isMark (p : Pr) : Bool := decide (p.1 = thName) || decide (p.1 = rvName)
def rest (ps : List Pr) : List Pr := ps.filter fun p => !isMark p
def heads (m : Mk) : List Pr := (bif m.2.2.1 then [(thName, (⟨(thS (digs 14 m.1.toNat)).toArray⟩ : ByteArray))] else []) ++ (bif m.2.2.2 then [(rvName, (⟨(digs 14 m.2.1.toNat).toArray⟩ : ByteArray))] else [])
def setAll (ps : List Pr) (m : Mk) : List Pr := heads m ++ rest ps
theorem heads_len (m : Mk) : (heads m).length ≤ 2 := by
  unfold heads
  cases m.2.2.1 <;> cases m.2.2.2 <;> simp
theorem rest_len (ps : List Pr) : (rest ps).length ≤ ps.length := List.length_filter_le _ _
theorem rest_snoc {ps : List Pr} {k : Nat} {p : Pr} (hp : ps[k]? = some p) : rest (ps.take (k + 1)) = rest (ps.take k) ++ (if isMark p then [] else [p]) := by
  unfold rest
  rw [List.take_add_one, hp, List.filter_append]
  simp only [Option.toList_some, List.filter_cons, List.filter_nil]
  cases isMark p <;> simp
end Go.Proofs.YtkliebhpdcjdgaaDoor
