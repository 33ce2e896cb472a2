/-
  How arguments are opened, further: slices of bools, of structs, of slices. Conditions: the reading itself; no program is named here.
-/
import Derived.Test.YtfopihlbdceepaaGreatOpen
import Derived.Deep.Slices
import Derived.Deep.Fields
namespace Go.Proofs.YtfopihlbdceepaaGreat
open Go.ChangeShapes Go.WideShapes Go.ChangeAt Go.RowKit Go.Deep

/-- A list of cells that can be read piece by piece is the pieces' list. -/
theorem chunks {α : Type} (f : α → List Value) (size : Nat) (good : α → Prop) : ∀ (n : Nat) (xs : List Value), xs.length = n * size →
    (∀ k, k < n → ∃ d, good d ∧ (xs.drop (k * size)).take size = f d) → ∃ ds : List α, ds.length = n ∧ xs = ds.flatMap f ∧ ∀ d ∈ ds, good d
  | 0, xs, hl, _ => ⟨[], rfl, by simpa using hl, by simp⟩
  | n + 1, xs, hl, h => by
    obtain ⟨d, hd, e⟩ := h 0 (by omega)
    rw [Nat.zero_mul, List.drop_zero] at e
    obtain ⟨ds, h1, h2, h3⟩ := chunks f size good n (xs.drop size) (by rw [List.length_drop, hl, Nat.succ_mul]; omega) (fun k hk => by
      obtain ⟨d', hd', e'⟩ := h (k + 1) (by omega)
      refine ⟨d', hd', ?_⟩
      rw [List.drop_drop, ← e', Nat.succ_mul, Nat.add_comm])
    refine ⟨d :: ds, by simp [h1], ?_, fun x hx => ?_⟩
    · rw [List.flatMap_cons, ← h2, ← e, List.take_append_drop]
    · rcases List.mem_cons.1 hx with rfl | hx
      · exact hd
      · exact h3 x hx
/-- Two cells an element. -/
def prs (ps : List (Int × Int)) : List Value := ps.flatMap fun p => [.int .i64 p.1, .int .i64 p.2]
theorem flat_at {α : Type} {f : α → List Value} {size : Nat} (hf : ∀ d, (f d).length = size) : ∀ {ds : List α} {k j : Nat} {d : α} {u : Value}, ds[k]? = some d → (f d)[j]? = some u → (ds.flatMap f)[k * size + j]? = some u
  | [], k, j, d, u, h, _ => by simp at h
  | d0 :: ds, 0, j, d, u, h, hu => by
    simp only [List.getElem?_cons_zero, Option.some.injEq] at h
    subst h
    rw [List.flatMap_cons, Nat.zero_mul, Nat.zero_add, List.getElem?_append_left (List.getElem?_eq_some_iff.1 hu).1]
    exact hu
  | d0 :: ds, k + 1, j, d, u, h, hu => by
    rw [List.getElem?_cons_succ] at h
    rw [List.flatMap_cons, List.getElem?_append_right (by rw [hf, Nat.succ_mul]; omega), hf, show (k + 1) * size + j - size = k * size + j by rw [Nat.succ_mul]; omega]
    exact flat_at hf h hu
theorem flat_len {α : Type} {f : α → List Value} {size : Nat} (hf : ∀ d, (f d).length = size) : ∀ ds : List α, (ds.flatMap f).length = ds.length * size
  | [] => by simp
  | d :: ds => by rw [List.flatMap_cons, List.length_append, hf, flat_len hf ds, List.length_cons, Nat.succ_mul]; omega
theorem flat_set {α : Type} {f : α → List Value} {size : Nat} (hf : ∀ d, (f d).length = size) : ∀ (ds : List α) (k j : Nat) (d d' : α) (u : Value), ds[k]? = some d → j < size → (f d).set j u = f d' → (ds.flatMap f).set (k * size + j) u = (ds.set k d').flatMap f
  | [], k, j, d, d', u, h, _, _ => by simp at h
  | d0 :: ds, 0, j, d, d', u, h, hj, hu => by
    simp only [List.getElem?_cons_zero, Option.some.injEq] at h
    subst h
    rw [List.flatMap_cons, Nat.zero_mul, Nat.zero_add, List.set_append_left _ _ (by rw [hf]; exact hj), hu]
    rfl
  | d0 :: ds, k + 1, j, d, d', u, h, hj, hu => by
    rw [List.getElem?_cons_succ] at h
    rw [List.flatMap_cons, List.set_append_right _ _ (by rw [hf, Nat.succ_mul]; omega), hf, show (k + 1) * size + j - size = k * size + j by rw [Nat.succ_mul]; omega, flat_set hf ds k j d d' u h hj hu]
    rfl
theorem prs_len (ps : List (Int × Int)) : (prs ps).length = ps.length * 2 := flat_len (f := fun p : Int × Int => [Value.int .i64 p.1, .int .i64 p.2]) (size := 2) (fun _ => rfl) ps
theorem prs_at0 {ps : List (Int × Int)} {k : Nat} {p : Int × Int} (h : ps[k]? = some p) : (prs ps)[k * 2]? = some (.int .i64 p.1) := by
  have := flat_at (f := fun p : Int × Int => [Value.int .i64 p.1, .int .i64 p.2]) (size := 2) (fun _ => rfl) (j := 0) (u := .int .i64 p.1) h rfl
  exact this
theorem prs_at1 {ps : List (Int × Int)} {k : Nat} {p : Int × Int} (h : ps[k]? = some p) : (prs ps)[k * 2 + 1]? = some (.int .i64 p.2) :=
  flat_at (f := fun p : Int × Int => [Value.int .i64 p.1, .int .i64 p.2]) (size := 2) (fun _ => rfl) (j := 1) h rfl
theorem prs_append (a b : List (Int × Int)) : prs (a ++ b) = prs a ++ prs b := by simp [prs]
theorem prs_one (ps : List (Int × Int)) : ∀ u ∈ prs ps, u.oneCell' = true := by
  intro u hu
  simp only [prs, List.mem_flatMap] at hu
  obtain ⟨p, _, hp⟩ := hu
  simp only [List.mem_cons, List.mem_nil_iff, or_false] at hp
  rcases hp with rfl | rfl <;> rfl
theorem prs_set1 {ps : List (Int × Int)} {k : Nat} {p : Int × Int} (h : ps[k]? = some p) (x : Int) : (prs ps).set (k * 2 + 1) (.int .i64 x) = prs (ps.set k (p.1, x)) :=
  flat_set (f := fun p : Int × Int => [Value.int .i64 p.1, .int .i64 p.2]) (size := 2) (fun _ => rfl) ps k 1 p (p.1, x) _ h (by decide) rfl
theorem prs_set0 {ps : List (Int × Int)} {k : Nat} {p : Int × Int} (h : ps[k]? = some p) (x : Int) : (prs ps).set (k * 2) (.int .i64 x) = prs (ps.set k (x, p.2)) :=
  flat_set (f := fun p : Int × Int => [Value.int .i64 p.1, .int .i64 p.2]) (size := 2) (fun _ => rfl) ps k 0 p (x, p.2) _ h (by decide) rfl
theorem prs_take (ps : List (Int × Int)) : ∀ k, (prs ps).take (k * 2) = prs (ps.take k) := by
  induction ps with
  | nil => intro k; simp [prs]
  | cons p ps ih =>
    intro k
    cases k with
    | zero => simp [prs]
    | succ k =>
      have := ih k
      simp only [prs, List.flatMap_cons, List.take_succ_cons, Nat.succ_mul] at this ⊢
      rw [← this]
      rfl
/-- Bools as cells. -/
def bools (bs : List Bool) : List Value := bs.map Value.bool
theorem bools_len (bs : List Bool) : (bools bs).length = bs.length := by simp [bools]
theorem bools_at {bs : List Bool} {j : Nat} {x : Bool} (h : bs[j]? = some x) : (bools bs)[j]? = some (.bool x) := by simp [bools, h]
theorem bools_append (a b : List Bool) : bools (a ++ b) = bools a ++ bools b := by simp [bools]
theorem bools_one (bs : List Bool) : ∀ u ∈ bools bs, u.oneCell' = true := by
  intro u hu
  simp only [bools, List.mem_map] at hu
  obtain ⟨b, _, rfl⟩ := hu
  rfl
theorem bools_set (bs : List Bool) (k : Nat) (x : Bool) : bools (bs.set k x) = (bools bs).set k (.bool x) := by simp [bools, List.map_set]
theorem Sl.blen {w : World} {B : Nat} {A : Option Addr} {n c : Nat} {bs : List Bool} (h : Sl w B 1 A n c (bools bs)) : bs.length = n := by have := h.len; simpa [bools] using this
theorem Sl.plen {w : World} {B : Nat} {A : Option Addr} {n c : Nat} {ps : List (Int × Int)} (h : Sl w B 2 A n c (prs ps)) : ps.length = n := by have := h.len; rw [prs_len] at this; omega
theorem Sl.bcell {w : World} {B : Nat} {A : Option Addr} {n c : Nat} {zs : List Bool} (h : Sl w B 1 A n c (bools zs)) {j : Nat} (hj : j < n) :
    ∃ ad x, A = some ad ∧ ad.block < B ∧ zs[j]? = some x ∧ w.cell? (ad.add j) = some (.bool x) := by
  have hl := h.blen
  have hx : zs[j]? = some (zs[j]'(by omega)) := List.getElem?_eq_getElem (by omega)
  obtain ⟨ad, e, hb, hc⟩ := h.cell (bools_at hx)
  exact ⟨ad, _, e, hb, hx, hc⟩
theorem Sl.pcell {w : World} {B : Nat} {A : Option Addr} {n c : Nat} {ps : List (Int × Int)} (h : Sl w B 2 A n c (prs ps)) {j : Nat} (hj : j < n) :
    ∃ ad p, A = some ad ∧ ad.block < B ∧ ps[j]? = some p ∧ w.cell? (ad.add (j * 2)) = some (.int .i64 p.1) ∧ w.cell? ⟨(ad.add (j * 2)).block, (ad.add (j * 2)).off + 1, none⟩ = some (.int .i64 p.2) := by
  have hl := h.plen
  have hx : ps[j]? = some (ps[j]'(by omega)) := List.getElem?_eq_getElem (by omega)
  obtain ⟨ad, e, hb, hc⟩ := h.cell (prs_at0 hx)
  obtain ⟨ad2, e2, _, hc2⟩ := h.cell (prs_at1 hx)
  rw [e] at e2
  injection e2 with e2
  subst e2
  exact ⟨ad, _, e, hb, hx, hc, by rw [← add_add] at hc2; exact hc2⟩

section
variable {H : Type} {enc : TypeId × Value → H} {P : Program} {w : World} {base : Nat} {sp : Nat → Bool} {held : Bool}
/-- A slice, its elements read one by one. -/
theorem open_sl_at {t e : TypeId} {v : Value} {fuel : Nat} {y : DataW H × List MemPlace} (ht : P.underlying t = some (.slice e)) (hpos : 0 < P.cellsOf e)
    (hf : DataW.trod enc P w base sp held fuel t [v] = some y) :
    ∃ A n c xs, v = .slice A n c ∧ Sl w w.heap.size (P.cellsOf e) A n c xs ∧ Long y.1 n ∧
      ∀ k, k < n → ∃ m D, DataW.trod enc P w base sp held m e ((xs.drop (k * P.cellsOf e)).take (P.cellsOf e)) = some D := by
  obtain ⟨d, p⟩ := y
  rcases open_slice ht hf with ⟨hcs, hx⟩ | ⟨a, len, cap, m, n, D, Pl, hcs, _, hl, hm, hmm, hx, hi⟩
  · simp only [List.cons.injEq, and_true] at hcs
    subst hcs
    exact ⟨none, 0, 0, [], rfl, Sl.nil _ _ _, .inl rfl, fun k hk => by omega⟩
  · simp only [List.cons.injEq, and_true] at hcs
    subst hcs
    have hlm : len ≤ m := by rw [hmm]; split <;> omega
    simp only [Prod.mk.injEq] at hx
    have hch : ∀ i, i < len → ∃ cs : List Value, cs.length = P.cellsOf e ∧ (∀ j u, cs[j]? = some u → w.cell? ((a.add (i * P.cellsOf e)).add j) = some u) ∧ DataW.trod enc P w base sp held n e cs = some (D i, Pl i) := by
      intro i hlt
      obtain ⟨cs', hc, ht'⟩ := hi i (by omega)
      obtain ⟨_, hcl, hat⟩ := World.cells?_some hc
      refine ⟨cs', hcl, fun j u hu => ?_, ht'⟩
      have hj : j < P.cellsOf e := by rw [← hcl]; exact (List.getElem?_eq_some_iff.1 hu).1
      rw [hat j hj, hu]
    have hall : ∀ k, k ≤ len → ∃ css : List (List Value), css.length = k ∧ ∀ i cs, css[i]? = some cs → cs.length = P.cellsOf e ∧ (∀ j u, cs[j]? = some u → w.cell? ((a.add (i * P.cellsOf e)).add j) = some u) ∧ DataW.trod enc P w base sp held n e cs = some (D i, Pl i) := by
      intro k
      induction k with
      | zero => exact fun _ => ⟨[], rfl, by simp⟩
      | succ k ih =>
        intro hk
        obtain ⟨css, h1, h2⟩ := ih (by omega)
        obtain ⟨cs, h3⟩ := hch k (by omega)
        refine ⟨css ++ [cs], by simp [h1], fun i cs' h => ?_⟩
        by_cases hik : i < k
        · rw [List.getElem?_append_left (by omega)] at h
          exact h2 i cs' h
        · have hil := (List.getElem?_eq_some_iff.1 h).1
          simp only [List.length_append, List.length_singleton] at hil
          obtain rfl : i = k := by omega
          rw [List.getElem?_append_right (by omega), h1, Nat.sub_self, List.getElem?_cons_zero] at h
          injection h with h
          subst h
          exact h3
    obtain ⟨css, hcl, hcss⟩ := hall len (Nat.le_refl _)
    have flen : ∀ (css : List (List Value)), (∀ cs ∈ css, cs.length = P.cellsOf e) → css.flatten.length = css.length * P.cellsOf e := by
      intro css
      induction css with
      | nil => simp
      | cons c css ih => intro h; rw [List.flatten_cons, List.length_append, h c (by simp), ih (fun x hx => h x (by simp [hx])), List.length_cons, Nat.succ_mul]; omega
    have fdrop : ∀ (css : List (List Value)), (∀ cs ∈ css, cs.length = P.cellsOf e) → ∀ k cs, css[k]? = some cs → (css.flatten.drop (k * P.cellsOf e)).take (P.cellsOf e) = cs := by
      intro css
      induction css with
      | nil => intro _ k cs h; simp at h
      | cons c css ih =>
        intro h k cs hk
        have hc := h c (by simp)
        cases k with
        | zero =>
          simp only [List.getElem?_cons_zero, Option.some.injEq] at hk
          subst hk
          rw [Nat.zero_mul, List.drop_zero, List.flatten_cons, ← hc, List.take_left]
        | succ k =>
          rw [List.getElem?_cons_succ] at hk
          rw [List.flatten_cons, Nat.succ_mul, Nat.add_comm, ← List.drop_drop, show (c ++ css.flatten).drop (P.cellsOf e) = css.flatten from by rw [← hc, List.drop_left]]
          exact ih (fun x hx => h x (by simp [hx])) k cs hk
    have hlen1 : ∀ cs ∈ css, cs.length = P.cellsOf e := by
      intro cs hcs
      obtain ⟨i, hi'⟩ := List.getElem?_of_mem hcs
      exact (hcss i cs hi').1
    refine ⟨some a, len, cap, css.flatten, rfl, ⟨by rw [flen css hlen1, hcl], hl, hm, (fun h => by cases h), fun hn => ?_⟩, ?_, ?_⟩
    · have hat : ∀ j u, css.flatten[j]? = some u → w.cell? (a.add j) = some u := by
        intro j u hu
        have hj := (List.getElem?_eq_some_iff.1 hu).1
        rw [flen css hlen1] at hj
        have hq : j / P.cellsOf e < css.length := by rw [Nat.div_lt_iff_lt_mul hpos]; exact hj
        have hcs := List.getElem?_eq_getElem hq
        obtain ⟨_, h2, _⟩ := hcss _ _ hcs
        have h3 := fdrop css hlen1 _ _ hcs
        have hr : j % P.cellsOf e < P.cellsOf e := Nat.mod_lt _ hpos
        have h4 := h2 (j % P.cellsOf e) u (by
          rw [← h3, List.getElem?_take_of_lt hr, List.getElem?_drop, Nat.mul_comm, Nat.div_add_mod]; exact hu)
        rw [add_add, Nat.mul_comm, Nat.div_add_mod] at h4
        exact h4
      refine ⟨a, rfl, ?_, hat⟩
      obtain ⟨cs0, hc0⟩ : ∃ u, css.flatten[0]? = some u := ⟨_, List.getElem?_eq_getElem (by rw [flen css hlen1, hcl]; exact Nat.mul_pos hn hpos)⟩
      have h3 := block_lt (hat 0 cs0 hc0)
      rwa [add_block] at h3
    · exact .inr ⟨_, _, hx.1, by simp⟩
    · intro k hk
      have hcs : css[k]? = some (css[k]'(by omega)) := List.getElem?_eq_getElem (by omega)
      obtain ⟨_, _, h5⟩ := hcss _ _ hcs
      rw [fdrop css hlen1 _ _ hcs]
      exact ⟨n, _, h5⟩
theorem open_sb_at {t e : TypeId} {v : Value} {fuel : Nat} {y : DataW H × List MemPlace} (ht : P.underlying t = some (.slice e)) (he : P.underlying e = some .bool) (hc : P.cellsOf e = 1)
    (hf : DataW.trod enc P w base sp held fuel t [v] = some y) :
    ∃ A n c bs, v = .slice A n c ∧ Sl w w.heap.size 1 A n c (bools bs) ∧ Long y.1 n := by
  obtain ⟨A, n, c, xs, rfl, hs, hl, hx⟩ := open_sl_at ht (by omega) hf
  rw [hc] at hs hx
  obtain ⟨bs, h1, h2, _⟩ := chunks (fun b : Bool => [Value.bool b]) 1 (fun _ => True) n xs hs.len (fun k hk => by
    obtain ⟨m, D, hD⟩ := hx k hk
    obtain ⟨b, hb, _⟩ := DataW.trod_bool he hD
    exact ⟨b, trivial, hb⟩)
  refine ⟨A, n, c, bs, rfl, ?_, hl⟩
  rw [show bools bs = bs.flatMap (fun b : Bool => [Value.bool b]) from by simp [bools, List.map_eq_flatMap], ← h2]
  exact hs
/-- A slice of structs of two numbers. -/
theorem open_sp_at {t e : TypeId} {f0 f1 : Field} {v : Value} {fuel : Nat} {y : DataW H × List MemPlace} (ht : P.underlying t = some (.slice e)) (he : P.underlying e = some (.struct #[f0, f1])) (hone : oneCellFields P #[f0, f1] = true) (hc : P.cellsOf e = 2)
    (h0 : P.underlying f0.type = some (.int .i64)) (h1 : P.underlying f1.type = some (.int .i64)) (hf : DataW.trod enc P w base sp held fuel t [v] = some y) :
    ∃ A n c ps, v = .slice A n c ∧ Sl w w.heap.size 2 A n c (prs ps) ∧ Long y.1 n ∧ ∀ p ∈ ps, I64 p.1 ∧ I64 p.2 := by
  obtain ⟨A, n, c, xs, rfl, hs, hl, hx⟩ := open_sl_at ht (by omega) hf
  rw [hc] at hs hx
  obtain ⟨ps, g1, g2, g3⟩ := chunks (fun p : Int × Int => [Value.int .i64 p.1, .int .i64 p.2]) 2 (fun p => I64 p.1 ∧ I64 p.2) n xs hs.len (fun k hk => by
    obtain ⟨m, D, hD⟩ := hx k hk
    have hlen : ((xs.drop (k * 2)).take 2).length = 2 := by
      rw [List.length_take, List.length_drop, hs.len]; omega
    obtain ⟨c0, c1, hcs⟩ : ∃ c0 c1, (xs.drop (k * 2)).take 2 = [c0, c1] := by
      match (xs.drop (k * 2)).take 2, hlen with
      | [c0, c1], _ => exact ⟨c0, c1, rfl⟩
    rw [hcs] at hD ⊢
    obtain ⟨y0, y1, m', _, _, e0, e1⟩ := trod_struct2 he hD
    obtain ⟨o0, k0⟩ := hone_of hone 0 f0 rfl
    obtain ⟨o1, k1⟩ := hone_of hone 1 f1 rfl
    rw [o0, k0] at e0
    rw [o1, k1] at e1
    simp only [List.drop_zero, List.drop_succ_cons, List.take_succ_cons, List.take_zero] at e0 e1
    obtain ⟨x0, rfl, w0⟩ := open_int_at h0 e0
    obtain ⟨x1, rfl, w1⟩ := open_int_at h1 e1
    exact ⟨(x0, x1), ⟨bounds_i64 w0, bounds_i64 w1⟩, rfl⟩)
  exact ⟨A, n, c, ps, rfl, by rw [show prs ps = xs from g2.symm]; exact hs, hl, g3⟩
theorem open_sb {r : Reach} {b0 : Nat} {t e : TypeId} {v : Value} {d : DataW H} {p : List MemPlace} (ht : P.underlying t = some (.slice e)) (he : P.underlying e = some .bool) (hc : P.cellsOf e = 1)
    (hv : Value.okWide P w r b0 t v) (h : DataW.Trod enc P w base sp held t v d p) :
    ∃ A n c bs, v = .slice A n c ∧ Sl w w.heap.size 1 A n c (bools bs) ∧ Long d n := by
  obtain ⟨A, n, c, rfl⟩ := okWide_slice ht hv
  obtain ⟨fuel, hf⟩ := h
  exact open_sb_at (y := (d, p)) ht he hc (by simpa [Value.cells] using hf)
theorem open_sp {r : Reach} {b0 : Nat} {t e : TypeId} {f0 f1 : Field} {v : Value} {d : DataW H} {p : List MemPlace} (ht : P.underlying t = some (.slice e)) (he : P.underlying e = some (.struct #[f0, f1])) (hone : oneCellFields P #[f0, f1] = true) (hc : P.cellsOf e = 2)
    (h0 : P.underlying f0.type = some (.int .i64)) (h1 : P.underlying f1.type = some (.int .i64)) (hv : Value.okWide P w r b0 t v) (h : DataW.Trod enc P w base sp held t v d p) :
    ∃ A n c ps, v = .slice A n c ∧ Sl w w.heap.size 2 A n c (prs ps) ∧ Long d n ∧ ∀ p ∈ ps, I64 p.1 ∧ I64 p.2 := by
  obtain ⟨A, n, c, rfl⟩ := okWide_slice ht hv
  obtain ⟨fuel, hf⟩ := h
  exact open_sp_at (y := (d, p)) ht he hone hc h0 h1 (by simpa [Value.cells] using hf)
end
end Go.Proofs.YtfopihlbdceepaaGreat
