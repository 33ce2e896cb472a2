/-
  Slices of pairs of texts: as cells; how such an argument is opened. Conditions: the reading itself; no program is named here.
-/
import Derived.Test.YtkliebhpdcjdgaaDoorOpen2
import Derived.Deep.SlicePairs
namespace Go.Proofs.YtkliebhpdcjdgaaDoor
open Go.ChangeShapes Go.WideShapes Go.ChangeAt Go.RowKit Go.Deep

abbrev Pr := ByteArray × ByteArray
def prV (p : Pr) : List Value := [.string p.1, .string p.2]
/-- Two texts an element. -/
def sps (ps : List Pr) : List Value := ps.flatMap prV
theorem sps_len (ps : List Pr) : (sps ps).length = ps.length * 2 := flat_len (f := prV) (size := 2) (fun _ => rfl) ps
theorem sps_at0 {ps : List Pr} {k : Nat} {p : Pr} (h : ps[k]? = some p) : (sps ps)[k * 2]? = some (.string p.1) :=
  flat_at (f := prV) (size := 2) (fun _ => rfl) (j := 0) (u := .string p.1) h rfl
theorem sps_at1 {ps : List Pr} {k : Nat} {p : Pr} (h : ps[k]? = some p) : (sps ps)[k * 2 + 1]? = some (.string p.2) :=
  flat_at (f := prV) (size := 2) (fun _ => rfl) (j := 1) h rfl
theorem sps_append (a b : List Pr) : sps (a ++ b) = sps a ++ sps b := by simp [sps]
theorem sps_one (ps : List Pr) : ∀ u ∈ sps ps, u.oneCell' = true := by
  intro u hu
  simp only [sps, List.mem_flatMap, prV] at hu
  obtain ⟨p, _, hp⟩ := hu
  simp only [List.mem_cons, List.mem_nil_iff, or_false] at hp
  rcases hp with rfl | rfl <;> rfl
theorem Sl.slen {w : World} {B : Nat} {A : Option Addr} {n c : Nat} {ps : List Pr} (h : Sl w B 2 A n c (sps ps)) : ps.length = n := by have := h.len; rw [sps_len] at this; omega
theorem Sl.scell {w : World} {B : Nat} {A : Option Addr} {n c : Nat} {ps : List Pr} (h : Sl w B 2 A n c (sps ps)) {j : Nat} (hj : j < n) :
    ∃ ad p, A = some ad ∧ ad.block < B ∧ ps[j]? = some p ∧ w.cell? (ad.add (j * 2)) = some (.string p.1) ∧ w.cell? ⟨(ad.add (j * 2)).block, (ad.add (j * 2)).off + 1, none⟩ = some (.string p.2) := by
  have hl := h.slen
  have hx : ps[j]? = some (ps[j]'(by omega)) := List.getElem?_eq_getElem (by omega)
  obtain ⟨ad, e, hb, hc⟩ := h.cell (sps_at0 hx)
  obtain ⟨ad2, e2, _, hc2⟩ := h.cell (sps_at1 hx)
  rw [e] at e2
  injection e2 with e2
  subst e2
  exact ⟨ad, _, e, hb, hx, hc, by rw [← add_add] at hc2; exact hc2⟩
/-- Slices of pairs of texts. -/
abbrev Sp2 (w : World) (A : Option Addr) (n c : Nat) (ps : List Pr) : Prop := Sl w w.heap.size 2 A n c (sps ps)
/-- What such a slice's datum is. -/
def PrD {H : Type} (d : DataW H) (ps : List Pr) : Prop := ps = [] ∨ ∃ sq, d = .slice (ps.map fun p => .agg [.lit (.string p.1.data.toList), .lit (.string p.2.data.toList)]) sq
section
variable {H : Type} {enc : TypeId × Value → H} {P : Program} {w : World} {base : Nat} {sp : Nat → Bool} {held : Bool}
theorem open_prs_at {t e : TypeId} {f0 f1 : Field} {v : Value} {fuel : Nat} {y : DataW H × List MemPlace} (ht : P.underlying t = some (.slice e)) (he : P.underlying e = some (.struct #[f0, f1])) (hc : P.cellsOf e = 2)
    (o0 : f0.offset = 0) (o1 : f1.offset = 1) (c0 : P.cellsOf f0.type = 1) (c1 : P.cellsOf f1.type = 1) (h0 : P.underlying f0.type = some .string) (h1 : P.underlying f1.type = some .string) (hf : DataW.trod enc P w base sp held fuel t [v] = some y) :
    ∃ A n c ps, v = .slice A n c ∧ Sp2 w A n c ps ∧ PrD y.1 ps ∧ ∀ p ∈ ps, p.1.size ≤ maxLen ∧ p.2.size ≤ maxLen := by
  rcases open_slice_pairs ht he hc o0 o1 c0 c1 hf with ⟨hcs, hx⟩ | ⟨a, len, cap, m, n, V0, V1, D0, D1, P0, P1, hcs, _, hl, hm, hmm, hx, hi⟩
  · simp only [List.cons.injEq, and_true] at hcs
    subst hcs
    exact ⟨none, 0, 0, [], rfl, Sl.nil _ _ _, .inl rfl, fun _ h => by simp at h⟩
  · simp only [List.cons.injEq, and_true] at hcs
    subst hcs
    have hlm : len ≤ m := by rw [hmm]; split <;> omega
    have hst : ∀ i, i < m → ∃ s0 s1 : ByteArray, V0 i = .string s0 ∧ V1 i = .string s1 ∧ D0 i = .lit (.string s0.data.toList) ∧ D1 i = .lit (.string s1.data.toList) ∧ s0.size ≤ maxLen ∧ s1.size ≤ maxLen := by
      intro i hi'
      obtain ⟨_, _, t0, t1⟩ := hi i hi'
      obtain ⟨s0, e0, x0, w0⟩ := DataW.trod_string h0 t0
      obtain ⟨s1, e1, x1, w1⟩ := DataW.trod_string h1 t1
      simp only [List.cons.injEq, and_true, Prod.mk.injEq] at e0 e1 x0 x1
      exact ⟨s0, s1, e0, e1, x0.1, x1.1, w0, w1⟩
    have hall : ∀ k, k ≤ len → ∃ ps : List Pr, ps.length = k ∧ ∀ i p, ps[i]? = some p → V0 i = .string p.1 ∧ V1 i = .string p.2 ∧ D0 i = .lit (.string p.1.data.toList) ∧ D1 i = .lit (.string p.2.data.toList) ∧ p.1.size ≤ maxLen ∧ p.2.size ≤ maxLen := by
      intro k
      induction k with
      | zero => exact fun _ => ⟨[], rfl, by simp⟩
      | succ k ih =>
        intro hk
        obtain ⟨ps, h1, h2⟩ := ih (by omega)
        obtain ⟨s0, s1, h3⟩ := hst k (by omega)
        refine ⟨ps ++ [(s0, s1)], by simp [h1], fun i p h => ?_⟩
        by_cases hik : i < k
        · rw [List.getElem?_append_left (by omega)] at h
          exact h2 i p h
        · have hil := (List.getElem?_eq_some_iff.1 h).1
          simp only [List.length_append, List.length_singleton] at hil
          obtain rfl : i = k := by omega
          rw [List.getElem?_append_right (by omega), h1, Nat.sub_self, List.getElem?_cons_zero] at h
          injection h with h
          subst h
          exact h3
    obtain ⟨ps, hpl, hps⟩ := hall len (Nat.le_refl _)
    have hat : ∀ j u, (sps ps)[j]? = some u → w.cell? (a.add j) = some u := by
      intro j u hu
      have hj := (List.getElem?_eq_some_iff.1 hu).1
      rw [sps_len] at hj
      have hq : j / 2 < ps.length := by omega
      have hp := List.getElem?_eq_getElem hq
      obtain ⟨e0, e1, _⟩ := hps _ _ hp
      obtain ⟨g0, g1, _⟩ := hi (j / 2) (by omega)
      rcases Nat.mod_two_eq_zero_or_one j with h2 | h2
      · have := sps_at0 hp
        rw [show j / 2 * 2 = j by omega] at this g0
        rw [this] at hu
        injection hu with hu
        rw [g0, e0, hu]
      · have := sps_at1 hp
        rw [show j / 2 * 2 + 1 = j by omega] at this g1
        rw [this] at hu
        injection hu with hu
        rw [g1, e1, hu]
    refine ⟨some a, len, cap, ps, rfl, ⟨by rw [sps_len, hpl], hl, hm, (fun h => by cases h), fun hn => ⟨a, rfl, ?_, hat⟩⟩, .inr ?_, fun p hp => ?_⟩
    · obtain ⟨g0, _⟩ := hi 0 (by omega)
      have h3 := block_lt g0
      rwa [add_block] at h3
    · rw [hx]
      refine ⟨_, congrArg (fun l => DataW.slice l _) ?_⟩
      apply List.ext_getElem?
      intro i
      by_cases hil : i < len
      · have hp := List.getElem?_eq_getElem (l := ps) (i := i) (by omega)
        obtain ⟨_, _, d0, d1, _⟩ := hps _ _ hp
        rw [List.getElem?_map, List.getElem?_range hil, List.getElem?_map, hp]
        simp [d0, d1]
      · rw [List.getElem?_eq_none (by simp; omega), List.getElem?_eq_none (by simp; omega)]
    · obtain ⟨i, hi'⟩ := List.getElem?_of_mem hp
      obtain ⟨_, _, _, _, w0, w1⟩ := hps i p hi'
      exact ⟨w0, w1⟩
theorem weights_all {P : Program} {e : TypeId} {ds : List (DataW H)} {d : DataW H} (h : d ∈ ds) {n : Nat} (hn : n ∈ d.weights P e) : n ∈ DataW.weightsAll P e ds := by
  induction ds with
  | nil => cases h
  | cons x ds ih =>
    simp only [DataW.weightsAll, List.mem_append]
    rcases List.mem_cons.1 h with rfl | h
    · exact .inl hn
    · exact .inr (ih h)
/-- What the form's reach says of each text of such an argument. -/
theorem prs_reach {P : Program} {ts : List TypeId} {ds : List (DataW H)} (hsz : (DataW.weightsEach P ts ds).all (· ≤ reachBytes) = true) {j : Nat} {t e : TypeId} {f0 f1 : Field} {d : DataW H} {ps : List Pr} (hl : PrD d ps)
    (ht : ts[j]? = some t) (hd : ds[j]? = some d) (hu : P.underlying t = some (.slice e)) (he : P.underlying e = some (.struct #[f0, f1])) : ∀ p ∈ ps, p.1.size ≤ 140737488351232 ∧ p.2.size ≤ 140737488351232 := by
  intro p hp
  rcases hl with rfl | ⟨sq, rfl⟩
  · cases hp
  · have key : ∀ n, n ∈ DataW.weights (H := H) P e (.agg [.lit (.string p.1.data.toList), .lit (.string p.2.data.toList)]) → n ≤ reachBytes := by
      intro n hn
      have h1 : n ∈ (DataW.slice (ps.map fun p => DataW.agg [.lit (.string p.1.data.toList), .lit (.string p.2.data.toList)]) sq : DataW H).weights P t := by
        unfold DataW.weights
        rw [hu]
        refine List.mem_cons_of_mem _ (List.mem_append_left _ (weights_all (List.mem_map.2 ⟨p, hp, rfl⟩) hn))
      have h2 := List.all_eq_true.1 hsz _ (DataW.weights_mem_each ht hd n h1)
      simpa using h2
    have e1 := key p.1.data.toList.length (by simp [DataW.weights, he, DataW.weightsEach])
    have e2 := key p.2.data.toList.length (by simp [DataW.weights, he, DataW.weightsEach])
    simp only [reachBytes] at e1 e2
    rw [Array.length_toList] at e1 e2
    exact ⟨e1, e2⟩
theorem open_prs {r : Reach} {b0 : Nat} {t e : TypeId} {f0 f1 : Field} {v : Value} {d : DataW H} {p : List MemPlace} (ht : P.underlying t = some (.slice e)) (he : P.underlying e = some (.struct #[f0, f1])) (hc : P.cellsOf e = 2)
    (o0 : f0.offset = 0) (o1 : f1.offset = 1) (c0 : P.cellsOf f0.type = 1) (c1 : P.cellsOf f1.type = 1) (h0 : P.underlying f0.type = some .string) (h1 : P.underlying f1.type = some .string) (hv : Value.okWide P w r b0 t v) (h : DataW.Trod enc P w base sp held t v d p) :
    ∃ A n c ps, v = .slice A n c ∧ Sp2 w A n c ps ∧ PrD d ps ∧ ∀ p ∈ ps, p.1.size ≤ maxLen ∧ p.2.size ≤ maxLen := by
  obtain ⟨A, n, c, rfl⟩ := okWide_slice ht hv
  obtain ⟨fuel, hf⟩ := h
  exact open_prs_at (y := (d, p)) ht he hc o0 o1 c0 c1 h0 h1 (by simpa [Value.cells] using hf)
end
end Go.Proofs.YtkliebhpdcjdgaaDoor
