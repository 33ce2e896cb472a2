/-
  Slices of rules: three cells an element. No condition beyond those that each lemma names.
-/
import Derived.Test.YtfopihlbdceepaaOpen2
import Derived.Test.YtfopihlbdceepaaMem
namespace Go.Proofs.Ytfopihlbdceepaa
open Go.RowKit

abbrev Rl := ByteArray × Int × Int
def rlV (r : Rl) : List Value := [.string r.1, .int .i64 r.2.1, .int .i64 r.2.2]
def rls (rs : List Rl) : List Value := rs.flatMap rlV
theorem rls_len (rs : List Rl) : (rls rs).length = rs.length * 3 := flat_len (f := rlV) (size := 3) (fun _ => rfl) rs
theorem rls_at0 {rs : List Rl} {k : Nat} {r : Rl} (h : rs[k]? = some r) : (rls rs)[k * 3]? = some (.string r.1) := flat_at (f := rlV) (size := 3) (fun _ => rfl) (j := 0) (u := .string r.1) h rfl
theorem rls_at1 {rs : List Rl} {k : Nat} {r : Rl} (h : rs[k]? = some r) : (rls rs)[k * 3 + 1]? = some (.int .i64 r.2.1) := flat_at (f := rlV) (size := 3) (fun _ => rfl) (j := 1) h rfl
theorem rls_at2 {rs : List Rl} {k : Nat} {r : Rl} (h : rs[k]? = some r) : (rls rs)[k * 3 + 2]? = some (.int .i64 r.2.2) := flat_at (f := rlV) (size := 3) (fun _ => rfl) (j := 2) h rfl
theorem rls_append (a b : List Rl) : rls (a ++ b) = rls a ++ rls b := by simp [rls]
theorem rls_one (rs : List Rl) : ∀ u ∈ rls rs, u.oneCell' = true := by
  intro u hu
  simp only [rls, List.mem_flatMap, rlV] at hu
  obtain ⟨p, _, hp⟩ := hu
  simp only [List.mem_cons, List.mem_nil_iff, or_false] at hp
  rcases hp with rfl | rfl | rfl <;> rfl
theorem Sl.rlen {w : World} {B : Nat} {A : Option Addr} {n c : Nat} {rs : List Rl} (h : Sl w B 3 A n c (rls rs)) : rs.length = n := by have := h.len; rw [rls_len] at this; omega
theorem Sl.rcell {w : World} {B : Nat} {A : Option Addr} {n c : Nat} {rs : List Rl} (h : Sl w B 3 A n c (rls rs)) {j : Nat} (hj : j < n) :
    ∃ ad r, A = some ad ∧ ad.block < B ∧ rs[j]? = some r ∧ w.cell? (ad.add (j * 3)) = some (.string r.1) ∧ w.cell? ⟨(ad.add (j * 3)).block, (ad.add (j * 3)).off + 1, none⟩ = some (.int .i64 r.2.1) ∧ w.cell? ⟨(ad.add (j * 3)).block, (ad.add (j * 3)).off + 2, none⟩ = some (.int .i64 r.2.2) := by
  have hl := h.rlen
  have hx : rs[j]? = some (rs[j]'(by omega)) := List.getElem?_eq_getElem (by omega)
  obtain ⟨ad, e, hb, hc⟩ := h.cell (rls_at0 hx)
  obtain ⟨ad1, e1, _, hc1⟩ := h.cell (rls_at1 hx)
  obtain ⟨ad2, e2, _, hc2⟩ := h.cell (rls_at2 hx)
  rw [e] at e1 e2
  injection e1 with e1
  injection e2 with e2
  subst e1
  subst e2
  refine ⟨ad, _, e, hb, hx, hc, ?_, ?_⟩
  · rw [← add_add] at hc1; exact hc1
  · rw [← add_add] at hc2; exact hc2
abbrev Sr (w : World) (A : Option Addr) (n c : Nat) (rs : List Rl) : Prop := Sl w w.heap.size 3 A n c (rls rs)
end Go.Proofs.Ytfopihlbdceepaa
