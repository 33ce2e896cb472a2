/-
  Slices of rules: how such an argument is opened. Conditions: the reading itself; no program is named here.
-/
import Derived.Test.YtfopihlbdceepaaRule
import Derived.Deep.SlicePairs
namespace Go.Proofs.Ytfopihlbdceepaa
open Go.ChangeShapes Go.WideShapes Go.ChangeAt Go.RowKit Go.Deep

section
variable {H : Type} {enc : TypeId × Value → H} {P : Program} {w : World} {base : Nat} {sp : Nat → Bool} {held : Bool}
theorem open_rls_at {t e : TypeId} {f0 f1 f2 : Field} {v : Value} {fuel : Nat} {y : DataW H × List MemPlace} (ht : P.underlying t = some (.slice e)) (he : P.underlying e = some (.struct #[f0, f1, f2])) (hc : P.cellsOf e = 3)
    (o0 : f0.offset = 0) (o1 : f1.offset = 1) (o2 : f2.offset = 2) (c0 : P.cellsOf f0.type = 1) (c1 : P.cellsOf f1.type = 1) (c2 : P.cellsOf f2.type = 1) (h0 : P.underlying f0.type = some .string) (h1 : P.underlying f1.type = some (.int .i64)) (h2 : P.underlying f2.type = some (.int .i64)) (hf : DataW.trod enc P w base sp held fuel t [v] = some y) :
    ∃ A n c rs, v = .slice A n c ∧ Sr w A n c rs ∧ ∀ r ∈ rs, r.1.size ≤ maxLen := by
  rcases open_slice ht hf with ⟨hcs, hx⟩ | ⟨a, len, cap, m, n, D, Pl, hcs, hb, hl, hm, hmm, _, hi⟩
  · simp only [List.cons.injEq, and_true] at hcs
    subst hcs
    exact ⟨none, 0, 0, [], rfl, Sl.nil _ _ _, fun _ h => by simp at h⟩
  · simp only [List.cons.injEq, and_true] at hcs
    subst hcs
    have hlm : len ≤ m := by rw [hmm]; split <;> omega
    have hst : ∀ i, i < m → ∃ r : Rl, w.cell? (a.add (i * 3)) = some (.string r.1) ∧ w.cell? (a.add (i * 3 + 1)) = some (.int .i64 r.2.1) ∧ w.cell? (a.add (i * 3 + 2)) = some (.int .i64 r.2.2) ∧ r.1.size ≤ maxLen := by
      intro i hi'
      obtain ⟨cs', g1, g2⟩ := hi i hi'
      rw [hc] at g1
      obtain ⟨_, hlen, hcell⟩ := World.cells?_some g1
      obtain ⟨xs, k, hk, hxy, _, hxl, hfd⟩ := DataW.trod_struct he g2
      match xs, hxl, cs', hlen with
      | [y0, y1, y2], _, [v0, v1, v2], _ =>
        have q0 := hfd 0 f0 rfl
        have q1 := hfd 1 f1 rfl
        have q2 := hfd 2 f2 rfl
        simp [o0, o1, o2, c0, c1, c2] at q0 q1 q2
        have e0 := hcell 0 (by omega)
        have e1 := hcell 1 (by omega)
        have e2 := hcell 2 (by omega)
        rw [Go.Deep.add_add] at e0 e1 e2
        simp only [Nat.add_zero, List.getElem?_cons_zero, List.getElem?_cons_succ] at e0 e1 e2
        obtain ⟨s0, x0, _, w0⟩ := DataW.trod_string h0 q0
        obtain ⟨s1, x1, _, _⟩ := DataW.trod_int h1 q1
        obtain ⟨s2, x2, _, _⟩ := DataW.trod_int h2 q2
        simp only [List.cons.injEq, and_true] at x0 x1 x2
        subst x0 x1 x2
        exact ⟨(s0, s1, s2), e0, e1, e2, w0⟩
    have hall : ∀ k, k ≤ len → ∃ rs : List Rl, rs.length = k ∧ ∀ i r, rs[i]? = some r → w.cell? (a.add (i * 3)) = some (.string r.1) ∧ w.cell? (a.add (i * 3 + 1)) = some (.int .i64 r.2.1) ∧ w.cell? (a.add (i * 3 + 2)) = some (.int .i64 r.2.2) ∧ r.1.size ≤ maxLen := by
      intro k
      induction k with
      | zero => exact fun _ => ⟨[], rfl, by simp⟩
      | succ k ih =>
        intro hk
        obtain ⟨rs, h3, h4⟩ := ih (by omega)
        obtain ⟨r, h5⟩ := hst k (by omega)
        refine ⟨rs ++ [r], by simp [h3], fun i q h => ?_⟩
        by_cases hik : i < k
        · rw [List.getElem?_append_left (by omega)] at h
          exact h4 i q h
        · have hil := (List.getElem?_eq_some_iff.1 h).1
          simp only [List.length_append, List.length_singleton] at hil
          obtain rfl : i = k := by omega
          rw [List.getElem?_append_right (by omega), h3, Nat.sub_self, List.getElem?_cons_zero] at h
          injection h with h
          subst h
          exact h5
    obtain ⟨rs, hpl, hps⟩ := hall len (Nat.le_refl _)
    have hat : ∀ j u, (rls rs)[j]? = some u → w.cell? (a.add j) = some u := by
      intro j u hu
      have hj := (List.getElem?_eq_some_iff.1 hu).1
      rw [rls_len] at hj
      have hp := List.getElem?_eq_getElem (l := rs) (i := j / 3) (by omega)
      obtain ⟨g0, g1, g2, _⟩ := hps _ _ hp
      rcases (show j = j / 3 * 3 ∨ j = j / 3 * 3 + 1 ∨ j = j / 3 * 3 + 2 by omega) with e | e | e
      · have := rls_at0 hp
        rw [← e] at this g0
        rw [this] at hu
        injection hu with hu
        rw [g0, hu]
      · have := rls_at1 hp
        rw [← e] at this g1
        rw [this] at hu
        injection hu with hu
        rw [g1, hu]
      · have := rls_at2 hp
        rw [← e] at this g2
        rw [this] at hu
        injection hu with hu
        rw [g2, hu]
    refine ⟨some a, len, cap, rs, rfl, ⟨by rw [rls_len, hpl], hl, hm, (fun h => by cases h), fun hn => ⟨a, rfl, ?_, hat⟩⟩, fun r hr => ?_⟩
    · obtain ⟨r, g0, _⟩ := hst 0 (by omega)
      have h3 := block_lt g0
      rwa [add_block] at h3
    · obtain ⟨i, hi'⟩ := List.getElem?_of_mem hr
      exact (hps i r hi').2.2.2
theorem open_rls {r : Reach} {b0 : Nat} {t e : TypeId} {f0 f1 f2 : Field} {v : Value} {d : DataW H} {p : List MemPlace} (ht : P.underlying t = some (.slice e)) (he : P.underlying e = some (.struct #[f0, f1, f2])) (hc : P.cellsOf e = 3)
    (o0 : f0.offset = 0) (o1 : f1.offset = 1) (o2 : f2.offset = 2) (c0 : P.cellsOf f0.type = 1) (c1 : P.cellsOf f1.type = 1) (c2 : P.cellsOf f2.type = 1) (h0 : P.underlying f0.type = some .string) (h1 : P.underlying f1.type = some (.int .i64)) (h2 : P.underlying f2.type = some (.int .i64)) (hv : Value.okWide P w r b0 t v) (h : DataW.Trod enc P w base sp held t v d p) :
    ∃ A n c rs, v = .slice A n c ∧ Sr w A n c rs ∧ ∀ r ∈ rs, r.1.size ≤ maxLen := by
  obtain ⟨A, n, c, rfl⟩ := okWide_slice ht hv
  obtain ⟨fuel, hf⟩ := h
  exact open_rls_at (y := (d, p)) ht he hc o0 o1 o2 c0 c1 c2 h0 h1 h2 (by simpa [Value.cells] using hf)
end
end Go.Proofs.Ytfopihlbdceepaa
