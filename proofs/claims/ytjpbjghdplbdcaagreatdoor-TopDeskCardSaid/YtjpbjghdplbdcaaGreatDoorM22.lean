/- Proves the parts of the claim that its last text joins: OrdM, Keep0. Conditions: those that each theorem names. -/
import Derived.Test.YtjpbjghdplbdcaaGreatDoorM21
import Derived.Below
section
namespace Go.Proofs.YtjpbjghdplbdcaaGreatDoor
open Go Go.RowKit
section
variable {P : Program} {ops : Array Oper} {Q : Exit → Act → World → Prop} {md : Region.Mode}
def Till (C0 C1 : World → Prop) (M : List Nat) (l : Array Bool) (w : World) : Prop := C0 w ∧ (M.all (fun m => l.getD m true) = false → C1 w)
variable {C0 C1 : World → Prop} {M : List Nat} {l : Array Bool} {w : World} {i m : Nat}
theorem Till.set (h : M.contains i = false) : Till C0 C1 M (l.setIfInBounds i true) w ↔ Till C0 C1 M l w := by
  have e : M.all (fun m => (l.setIfInBounds i true).getD m true) = M.all (fun m => l.getD m true) := by
    induction M with
    | nil => rfl
    | cons x M ih =>
      simp only [List.contains_cons, Bool.or_eq_false_iff, beq_eq_false_iff_ne] at h
      simp only [List.all_cons]
      rw [getD_set_ne true h.1, ih h.2]
  unfold Till; rw [e]
theorem Till.at (hm : M.contains m = true) (h : l.getD m true = false) (hs : Till C0 C1 M l w) : C1 w :=
  hs.2 (by rw [List.all_eq_false]; exact ⟨m, by simpa using hm, by simp [h]⟩)
theorem Till.over (hl : M.all (fun m => l.getD m true) = true) (h0 : C0 w) : Till C0 C1 M l w := ⟨h0, fun h => by rw [hl] at h; cases h⟩
theorem anyTill.last {oi : Oper} {v : Value} {k : Nat} {a : Act} (hi : ops[i]? = some oi) (hsel : Region.noSelect ops = true) (hf : Region.free md ops l i = true) (hr : (Region.ready md ops l).contains i = true)
    (hQ : ∀ c a w, Q (.panic c) (a.put oi.dst v) w → Q (.panic c) a w) (hm : M.contains i = false) (hy : YieldsIf P ops C0 oi v a) (hs : Till C0 C1 M l w)
    (h : Till C0 C1 M (l.setIfInBounds i true) w → anyTill P md ops Q (Till C0 C1 M) k (l.setIfInBounds i true) (a.put oi.dst v) w) : anyTill P md ops Q (Till C0 C1 M) (k + 1) l a w :=
  anyTill.first (T := fun _ => True) (C := C0) hi hsel hQ (fun _ _ _ _ _ _ => trivial) (fun _ _ _ h => h.1) (fun _ _ => Till.set hm) k l a w trivial (Region.free_spec hi hf) (by simpa using hr) hy hs (h ((Till.set hm).2 hs))
theorem anyTill.soon {oi : Oper} {v : Value} {k : Nat} {a : Act} (m : Nat) (hi : ops[i]? = some oi) (hsel : Region.noSelect ops = true) (hf : Region.free md ops l i = true) (hr : (Region.ready md ops l).contains i = true)
    (hw : waits md ops m i = true) (hl : l.getD m true = false) (hM : M.contains m = true)
    (hQ : ∀ c a w, Q (.panic c) (a.put oi.dst v) w → Q (.panic c) a w) (hm : M.contains i = false) (hy : YieldsIf P ops C1 oi v a) (hs : Till C0 C1 M l w)
    (h : Till C0 C1 M (l.setIfInBounds i true) w → anyTill P md ops Q (Till C0 C1 M) k (l.setIfInBounds i true) (a.put oi.dst v) w) : anyTill P md ops Q (Till C0 C1 M) (k + 1) l a w :=
  anyTill.read hi hsel hf hr hw hl (fun _ _ hl hs => Till.at hM hl hs) hQ (fun _ _ => Till.set hm) hy hs (h ((Till.set hm).2 hs))
theorem kept {B : Nat} {w2 : World} {p : Addr} {u : Value} (hp : p.block < B) (q : w.cell? p = some u) (h : Below B w w2) : w2.cell? p = some u := (h.cell hp).trans q
end
end Go.Proofs.YtjpbjghdplbdcaaGreatDoor
end
section
namespace Go.Proofs.YtjpbjghdplbdcaaGreatDoor
open Go.RowKit
theorem at_wd {K : Act → World → Prop} {a : Act} {W : World} (h : ∀ W', W' = W → K a W') : K a W := h W rfl
end Go.Proofs.YtjpbjghdplbdcaaGreatDoor
end
