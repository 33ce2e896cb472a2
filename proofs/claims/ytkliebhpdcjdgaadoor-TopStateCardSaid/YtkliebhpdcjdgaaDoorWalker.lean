/-
  Walker's method on plain lists: the rounds, and what stays true of the two stacks. No program in sight.
-/
import Derived.Test.YtkliebhpdcjdgaaDoorPlain
namespace Go.Proofs.YtkliebhpdcjdgaaDoor

/-- A column and what remains of it. -/
abbrev Bit := Nat × Int
/-- The rounds: the stacks with their top first; own and rest of all columns. -/
def aRun (sum : Int) : Nat → List Bit → List Bit → List Int → List Int → List Int × List Int
  | 0, _, _, own, rest => (own, rest)
  | _ + 1, [], _, own, rest => (own, rest)
  | _ + 1, _ :: _, [], own, rest => (own, rest)
  | f + 1, (i, x) :: lo, (k, y) :: hi, own, rest =>
    if y - (sum - x) < sum then aRun sum f ((k, y - (sum - x)) :: lo) hi (own.set i x) (rest.set i (k : Int))
    else aRun sum f lo ((k, y - (sum - x)) :: hi) (own.set i x) (rest.set i (k : Int))
def sumOf (l : List Bit) : Int := (l.map Prod.snd).sum
theorem sumOf_nil : sumOf [] = 0 := rfl
theorem sumOf_cons (p : Bit) (l : List Bit) : sumOf (p :: l) = p.2 + sumOf l := by simp [sumOf]
/-- What stays true. -/
structure AInv (n : Nat) (sum : Int) (lo hi : List Bit) : Prop where
  nd : ((lo ++ hi).map Prod.fst).Nodup
  lt : ∀ p ∈ lo ++ hi, p.1 < n
  low : ∀ p ∈ lo, 0 ≤ p.2 ∧ p.2 < sum
  high : ∀ p ∈ hi, sum ≤ p.2 ∧ p.2 ≤ 40000000000000
  tot : sumOf lo + sumOf hi = sum * ((lo.length + hi.length : Nat) : Int)
  len : lo.length + hi.length ≤ n
theorem low_less {sum : Int} : ∀ {lo : List Bit}, (∀ p ∈ lo, 0 ≤ p.2 ∧ p.2 < sum) → sumOf lo ≤ sum * (lo.length : Int) - (lo.length : Int)
  | [], _ => by simp [sumOf]
  | p :: lo, h => by
    have h1 := low_less (lo := lo) (fun q hq => h q (by simp [hq]))
    have h2 := h p (by simp)
    rw [sumOf_cons, List.length_cons, Int.natCast_add, Int.mul_add]
    omega
theorem AInv.hi_ne {n : Nat} {sum : Int} {p : Bit} {lo : List Bit} (h : AInv n sum (p :: lo) []) : False := by
  have h1 := low_less h.low
  have h2 := h.tot
  rw [sumOf_nil] at h2
  simp only [List.length_nil, Nat.add_zero] at h2
  simp only [List.length_cons] at h1 h2
  omega
theorem AInv.nd2 {n : Nat} {sum : Int} {i k : Nat} {x y : Int} {lo hi : List Bit} (h : AInv n sum ((i, x) :: lo) ((k, y) :: hi)) :
    i ≠ k ∧ (∀ p ∈ lo ++ hi, p.1 ≠ k) ∧ ((lo ++ hi).map Prod.fst).Nodup := by
  have h1 := h.nd
  simp only [List.cons_append, List.map_cons, List.map_append, List.nodup_cons, List.mem_append, List.mem_cons, List.nodup_append, List.mem_map] at h1
  obtain ⟨a1, a2, ⟨a3, a4⟩, a5⟩ := h1
  refine ⟨fun e => a1 (.inr (.inl e)), ?_, ?_⟩
  · intro p hp e
    rcases List.mem_append.1 hp with hp | hp
    · exact a5 p.1 ⟨p, hp, rfl⟩ k (.inl rfl) e
    · exact a3 ⟨p, hp, e⟩
  · rw [List.map_append, List.nodup_append]
    refine ⟨a2, a4, ?_⟩
    intro a ha b hb
    exact a5 a (by simpa using ha) b (.inr (by simpa using hb))
theorem AInv.step {n : Nat} {sum : Int} {i k : Nat} {x y : Int} {lo hi : List Bit} (h : AInv n sum ((i, x) :: lo) ((k, y) :: hi)) :
    (y - (sum - x) < sum → AInv n sum ((k, y - (sum - x)) :: lo) hi) ∧ (¬ y - (sum - x) < sum → AInv n sum lo ((k, y - (sum - x)) :: hi)) := by
  obtain ⟨b1, b2, b3⟩ := h.nd2
  have hx := h.low (i, x) (by simp)
  have hy := h.high (k, y) (by simp)
  have ht := h.tot
  have hl := h.len
  have hk := h.lt (k, y) (by simp)
  rw [sumOf_cons, sumOf_cons] at ht
  simp only [List.length_cons] at ht hl
  dsimp only at hx hy ht hk
  have e1 : sum * ((lo.length + 1 + (hi.length + 1) : Nat) : Int) = sum * ((lo.length + 1 + hi.length : Nat) : Int) + sum := by
    rw [show ((lo.length + 1 + (hi.length + 1) : Nat) : Int) = ((lo.length + 1 + hi.length : Nat) : Int) + 1 by omega, Int.mul_add, Int.mul_one]
  rw [e1] at ht
  constructor
  · intro hs
    refine ⟨?_, ?_, ?_, fun p hp => h.high p (by simp [hp]), ?_, by simp only [List.length_cons]; omega⟩
    · rw [List.cons_append, List.map_cons, List.nodup_cons]
      exact ⟨fun hm => by obtain ⟨p, hp, e⟩ := List.mem_map.1 hm; exact b2 p hp e, b3⟩
    · intro p hp
      rw [List.cons_append, List.mem_cons] at hp
      rcases hp with rfl | hp
      · exact hk
      · exact h.lt p (by simp only [List.cons_append, List.mem_cons, List.mem_append] at hp ⊢; rcases hp with hp | hp <;> simp [hp])
    · intro p hp
      rw [List.mem_cons] at hp
      rcases hp with rfl | hp
      · exact ⟨by omega, hs⟩
      · exact h.low p (by simp [hp])
    · rw [sumOf_cons, List.length_cons]
      dsimp only
      omega
  · intro hs
    refine ⟨?_, ?_, fun p hp => h.low p (by simp [hp]), ?_, ?_, by simp only [List.length_cons]; omega⟩
    · rw [List.map_append, List.map_cons, List.nodup_append]
      rw [List.map_append, List.nodup_append] at b3
      refine ⟨b3.1, List.nodup_cons.2 ⟨fun hm => by obtain ⟨p, hp, e⟩ := List.mem_map.1 hm; exact b2 p (by simp [hp]) e, b3.2.1⟩, ?_⟩
      intro a ha b hb
      rw [List.mem_cons] at hb
      rcases hb with rfl | hb
      · obtain ⟨p, hp, e⟩ := List.mem_map.1 ha
        exact fun e2 => b2 p (by simp [hp]) (by rw [e, e2])
      · exact b3.2.2 a ha b hb
    · intro p hp
      rw [List.mem_append, List.mem_cons] at hp
      rcases hp with hp | rfl | hp
      · exact h.lt p (by simp [hp])
      · exact hk
      · exact h.lt p (by simp [hp])
    · intro p hp
      rw [List.mem_cons] at hp
      rcases hp with rfl | hp
      · exact ⟨by dsimp only; omega, by dsimp only; omega⟩
      · exact h.high p (by simp [hp])
    · rw [sumOf_cons, List.length_cons]
      dsimp only
      rw [show ((lo.length + (hi.length + 1) : Nat) : Int) = ((lo.length + 1 + hi.length : Nat) : Int) by omega]
      omega

/-- Where what remains is written down. -/
def Lies (L : List Int) (ps : List Bit) : Prop := ∀ p ∈ ps, L[p.1]? = some p.2
theorem Lies.at_ {L : List Int} {ps : List Bit} {i : Nat} {x : Int} (h : Lies L ps) (hp : (i, x) ∈ ps) : L[i]? = some x := h (i, x) hp
theorem Lies.step {L : List Int} {n : Nat} {sum : Int} {i k : Nat} {x y : Int} {lo hi : List Bit} (z : Int) (h : Lies L ((i, x) :: lo ++ (k, y) :: hi)) (hi' : AInv n sum ((i, x) :: lo) ((k, y) :: hi)) :
    Lies (L.set k z) ((k, z) :: lo ++ hi) ∧ Lies (L.set k z) (lo ++ (k, z) :: hi) := by
  have hk := h.at_ (i := k) (x := y) (by simp)
  obtain ⟨b1, b2, b3⟩ := hi'.nd2
  have key : ∀ p, p = (k, z) ∨ p ∈ lo ++ hi → (L.set k z)[p.1]? = some p.2 := by
    rintro p (rfl | hp)
    · exact List.getElem?_set_self (List.getElem?_eq_some_iff.1 hk).1
    · rw [List.getElem?_set_ne (fun e => b2 p hp e.symm)]
      exact h p (by simp only [List.cons_append, List.mem_cons, List.mem_append] at hp ⊢; rcases hp with hp | hp <;> simp [hp])
  exact ⟨fun p hp => key p (by simpa using hp), fun p hp => key p (by
    rw [List.mem_append, List.mem_cons] at hp
    rcases hp with hp | hp | hp
    · exact .inr (by simp [hp])
    · exact .inl hp
    · exact .inr (by simp [hp]))⟩

/-- The stacks when the first k weights have been looked at. -/
def loTo (sum : Int) (n : Nat) (l : List Int) : Nat → List Bit
  | 0 => []
  | k + 1 => if l.getD k 0 * n < sum then (k, l.getD k 0 * n) :: loTo sum n l k else loTo sum n l k
def hiTo (sum : Int) (n : Nat) (l : List Int) : Nat → List Bit
  | 0 => []
  | k + 1 => if l.getD k 0 * n < sum then hiTo sum n l k else (k, l.getD k 0 * n) :: hiTo sum n l k
def wsum (l : List Int) : Nat → Int
  | 0 => 0
  | k + 1 => wsum l k + l.getD k 0
structure APre (n : Nat) (sum : Int) (l : List Int) (k : Nat) : Prop where
  nd : ((loTo sum n l k ++ hiTo sum n l k).map Prod.fst).Nodup
  lt : ∀ p ∈ loTo sum n l k ++ hiTo sum n l k, p.1 < k
  low : ∀ p ∈ loTo sum n l k, 0 ≤ p.2 ∧ p.2 < sum
  high : ∀ p ∈ hiTo sum n l k, sum ≤ p.2 ∧ p.2 ≤ 40000000000000
  tot : sumOf (loTo sum n l k) + sumOf (hiTo sum n l k) = wsum l k * n
  len : (loTo sum n l k).length + (hiTo sum n l k).length = k
theorem times_bound {v : Int} {n : Nat} (h1 : 0 ≤ v) (h2 : v ≤ 1000000000000) (hn : n ≤ 40) : 0 ≤ v * n ∧ v * n ≤ 40000000000000 := by
  have h3 : v * n ≤ 1000000000000 * n := Int.mul_le_mul_of_nonneg_right h2 (by omega)
  have h4 : 0 ≤ v * n := Int.mul_nonneg h1 (by omega)
  omega
theorem aPre {n : Nat} {sum : Int} {l : List Int} (hn : n ≤ 40) (hl : l.length = n) (hw : ∀ x ∈ l, 0 ≤ x ∧ x ≤ 1000000000000) : ∀ k, k ≤ n → APre n sum l k
  | 0, _ => ⟨by simp [loTo, hiTo], by simp [loTo, hiTo], by simp [loTo], by simp [hiTo], by simp [loTo, hiTo, sumOf, wsum], by simp [loTo, hiTo]⟩
  | k + 1, hk => by
    have ih := aPre (sum := sum) hn hl hw k (by omega)
    have hx : l[k]? = some (l.getD k 0) := getD_at (by omega)
    obtain ⟨v, hv⟩ : ∃ v, l.getD k 0 = v := ⟨_, rfl⟩
    rw [hv] at hx
    have hb := hw v (List.mem_of_getElem? hx)
    obtain ⟨hb1, hb2⟩ := times_bound hb.1 hb.2 hn
    have et : wsum l (k + 1) * (n : Int) = wsum l k * n + v * n := by rw [wsum, hv, Int.add_mul]
    by_cases hs : v * (n : Int) < sum
    · have e1 : loTo sum n l (k + 1) = (k, v * n) :: loTo sum n l k := by rw [loTo, hv, if_pos hs]
      have e2 : hiTo sum n l (k + 1) = hiTo sum n l k := by rw [hiTo, hv, if_pos hs]
      refine ⟨?_, ?_, ?_, ?_, ?_, ?_⟩ <;> (try rw [e1]) <;> try rw [e2]
      · rw [List.cons_append, List.map_cons, List.nodup_cons]
        refine ⟨fun hm => ?_, ih.nd⟩
        obtain ⟨p, hp, e⟩ := List.mem_map.1 hm
        have := ih.lt p hp
        dsimp only at e
        omega
      · intro p hp
        rw [List.cons_append, List.mem_cons] at hp
        rcases hp with rfl | hp
        · exact Nat.lt_succ_self k
        · exact Nat.lt_succ_of_lt (ih.lt p hp)
      · intro p hp
        rw [List.mem_cons] at hp
        rcases hp with rfl | hp
        · exact ⟨hb1, hs⟩
        · exact ih.low p hp
      · exact ih.high
      · rw [sumOf_cons, et, ← ih.tot]; dsimp only; omega
      · have := ih.len; simp only [List.length_cons]; omega
    · have e1 : loTo sum n l (k + 1) = loTo sum n l k := by rw [loTo, hv, if_neg hs]
      have e2 : hiTo sum n l (k + 1) = (k, v * n) :: hiTo sum n l k := by rw [hiTo, hv, if_neg hs]
      refine ⟨?_, ?_, ?_, ?_, ?_, ?_⟩ <;> (try rw [e1]) <;> try rw [e2]
      · have hd := ih.nd
        rw [List.map_append, List.nodup_append] at hd ⊢
        refine ⟨hd.1, ?_, ?_⟩
        · rw [List.map_cons, List.nodup_cons]
          refine ⟨fun hm => ?_, hd.2.1⟩
          obtain ⟨p, hp, e⟩ := List.mem_map.1 hm
          have := ih.lt p (by simp [hp])
          dsimp only at e
          omega
        · intro a ha b hb'
          rw [List.map_cons, List.mem_cons] at hb'
          rcases hb' with rfl | hb'
          · obtain ⟨p, hp, e⟩ := List.mem_map.1 ha
            have := ih.lt p (by simp [hp])
            omega
          · exact hd.2.2 a ha b hb'
      · intro p hp
        rw [List.mem_append, List.mem_cons] at hp
        rcases hp with hp | rfl | hp
        · exact Nat.lt_succ_of_lt (ih.lt p (by simp [hp]))
        · exact Nat.lt_succ_self k
        · exact Nat.lt_succ_of_lt (ih.lt p (by simp [hp]))
      · exact ih.low
      · intro p hp
        rw [List.mem_cons] at hp
        rcases hp with rfl | hp
        · exact ⟨by dsimp only; omega, hb2⟩
        · exact ih.high p hp
      · rw [sumOf_cons, et, ← ih.tot]; dsimp only; omega
      · have := ih.len; simp only [List.length_cons]; omega
theorem APre.inv {n : Nat} {l : List Int} (h : APre n (wsum l n) l n) : AInv n (wsum l n) (loTo (wsum l n) n l n) (hiTo (wsum l n) n l n) :=
  ⟨h.nd, h.lt, h.low, h.high, by rw [h.tot, h.len], by rw [h.len]; exact Nat.le_refl _⟩
/-- What Make answers. -/
def aliasOf (n : Nat) (l : List Int) : List Int × List Int :=
  aRun (wsum l n) n (loTo (wsum l n) n l n) (hiTo (wsum l n) n l n) (List.replicate n (wsum l n)) ((List.range n).map fun (i : Nat) => (i : Int))
end Go.Proofs.YtkliebhpdcjdgaaDoor
