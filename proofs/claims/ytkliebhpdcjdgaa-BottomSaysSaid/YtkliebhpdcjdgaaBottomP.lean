/-
  Rising numbers, as a plain matter of lists: one more put in; the least of all; what the k-th tells. No program is named here.
-/
import Derived.Test.YtkliebhpdcjdgaaTableP
namespace Go.Proofs.Ytkliebhpdcjdgaa

abbrev Up (l : List Int) : Prop := l.Pairwise (· < ·)
/-- Two rising lists of the same numbers are the same. -/
theorem up_ext : ∀ {a b : List Int}, Up a → Up b → (∀ x, x ∈ a ↔ x ∈ b) → a = b
  | [], [], _, _, _ => rfl
  | [], y :: b, _, _, h => by have := (h y).2 (List.mem_cons_self ..); simp at this
  | x :: a, [], _, _, h => by have := (h x).1 (List.mem_cons_self ..); simp at this
  | x :: a, y :: b, ha, hb, h => by
    rw [Up, List.pairwise_cons] at ha hb
    have hx := (h x).1 (List.mem_cons_self ..)
    have hy := (h y).2 (List.mem_cons_self ..)
    have e : x = y := by
      rcases List.mem_cons.1 hx with e | e
      · exact e
      · rcases List.mem_cons.1 hy with e2 | e2
        · exact e2.symm
        · have h1 := hb.1 x e
          have h2 := ha.1 y e2
          omega
    subst e
    congr 1
    refine up_ext ha.2 hb.2 fun z => ⟨fun hz => ?_, fun hz => ?_⟩
    · rcases List.mem_cons.1 ((h z).1 (List.mem_cons_of_mem _ hz)) with e | e
      · have := ha.1 z hz; omega
      · exact e
    · rcases List.mem_cons.1 ((h z).2 (List.mem_cons_of_mem _ hz)) with e | e
      · have := hb.1 z hz; omega
      · exact e
/-- One number put in, if it is not there. -/
def insU (n : Int) : List Int → List Int
  | [] => [n]
  | x :: l => if x < n then x :: insU n l else if x = n then x :: l else n :: x :: l
theorem insU_mem (n : Int) : ∀ (l : List Int) (z : Int), z ∈ insU n l ↔ z = n ∨ z ∈ l
  | [], z => by simp [insU]
  | x :: l, z => by
    unfold insU
    split
    · rw [List.mem_cons, insU_mem n l z, List.mem_cons]
      constructor
      · rintro (h | h | h) <;> simp [h]
      · rintro (h | h | h) <;> simp [h]
    · split
      · rename_i h; subst h
        rw [List.mem_cons]
        constructor
        · intro h; exact .inr h
        · rintro (h | h)
          · exact .inl h
          · exact h
      · simp
theorem insU_up {n : Int} : ∀ {l : List Int}, Up l → Up (insU n l)
  | [], _ => by simp [insU, Up]
  | x :: l, h => by
    rw [Up, List.pairwise_cons] at h
    unfold insU
    split
    · rename_i hx
      rw [Up, List.pairwise_cons]
      refine ⟨fun z hz => ?_, insU_up h.2⟩
      rcases (insU_mem n l z).1 hz with e | e
      · omega
      · exact h.1 z e
    · split
      · rw [Up, List.pairwise_cons]; exact h
      · rename_i h1 h2
        rw [Up, List.pairwise_cons, List.pairwise_cons]
        refine ⟨fun z hz => ?_, h⟩
        rcases List.mem_cons.1 hz with e | e
        · omega
        · have := h.1 z e; omega
theorem insU_take {n : Int} : ∀ {l : List Int} (k : Nat), Up l → (insU n (l.take k)).take k = (insU n l).take k
  | [], k, _ => by simp
  | x :: l, 0, _ => by simp
  | x :: l, k + 1, h => by
    rw [Up, List.pairwise_cons] at h
    rw [List.take_succ_cons]
    unfold insU
    split
    · rw [List.take_succ_cons, List.take_succ_cons, insU_take k h.2]
    · split
      · rw [List.take_succ_cons, List.take_succ_cons, List.take_take, Nat.min_self]
      · rw [List.take_succ_cons, List.take_succ_cons]
        cases k with
        | zero => rfl
        | succ k => rw [List.take_succ_cons, List.take_succ_cons, List.take_take, Nat.min_eq_left (Nat.le_succ k)]
theorem insU_len (n : Int) : ∀ l : List Int, (insU n l).length ≤ l.length + 1
  | [] => by simp [insU]
  | x :: l => by
    unfold insU
    have := insU_len n l
    split
    · simp; omega
    · split <;> simp
/-- Where it belongs. -/
theorem insU_at {n : Int} : ∀ {l : List Int} {i : Nat}, i ≤ l.length → (∀ x ∈ l.take i, x < n) → (∀ x ∈ l.drop i, n < x) → insU n l = l.take i ++ n :: l.drop i
  | [], i, hi, _, _ => by
    have : i = 0 := by simpa using hi
    subst this; rfl
  | x :: l, 0, _, _, h2 => by
    have := h2 x (by simp)
    unfold insU
    rw [if_neg (by omega), if_neg (by omega)]; rfl
  | x :: l, i + 1, hi, h1, h2 => by
    have hx := h1 x (by simp)
    unfold insU
    rw [if_pos hx, insU_at (i := i) (by simpa using hi) (fun y hy => h1 y (by simp [hy])) (fun y hy => h2 y (by simpa using hy))]
    rfl
theorem insU_there {n : Int} : ∀ {l : List Int}, Up l → n ∈ l → insU n l = l
  | [], _, h => by cases h
  | x :: l, hu, h => by
    rw [Up, List.pairwise_cons] at hu
    unfold insU
    rcases List.mem_cons.1 h with e | e
    · subst e; rw [if_neg (by omega), if_pos rfl]
    · have := hu.1 n e
      rw [if_pos this, insU_there hu.2 e]
/-- All of them, each once, rising. -/
def allU (l : List Int) : List Int := l.foldl (fun a x => insU x a) []
theorem foldU_up : ∀ (l a : List Int), Up a → Up (l.foldl (fun a x => insU x a) a)
  | [], _, h => h
  | x :: l, a, h => foldU_up l (insU x a) (insU_up h)
theorem foldU_mem : ∀ (l a : List Int) (z : Int), z ∈ l.foldl (fun a x => insU x a) a ↔ z ∈ a ∨ z ∈ l
  | [], a, z => by simp
  | x :: l, a, z => by
    rw [List.foldl_cons, foldU_mem l, insU_mem, List.mem_cons]
    constructor
    · rintro ((h | h) | h) <;> simp [h]
    · rintro (h | h | h) <;> simp [h]
theorem allU_up (l : List Int) : Up (allU l) := foldU_up l [] (by simp [Up])
theorem allU_mem (l : List Int) (z : Int) : z ∈ allU l ↔ z ∈ l := by rw [allU, foldU_mem]; simp
theorem allU_of {l a : List Int} (h : Up a) (hm : ∀ z, z ∈ a ↔ z ∈ l) : a = allU l := up_ext h (allU_up l) fun z => by rw [hm, allU_mem]
theorem allU_self {l : List Int} (h : Up l) : allU l = l := (allU_of h fun _ => Iff.rfl).symm
theorem allU_snoc (l : List Int) (n : Int) : allU (l ++ [n]) = insU n (allU l) := by rw [allU, List.foldl_append]; rfl
theorem allU_append (l : List Int) : ∀ m : List Int, allU (l ++ m) = m.foldl (fun a x => insU x a) (allU l) := fun m => by rw [allU, List.foldl_append]; rfl
/-- Put one by one, each time cut to k. -/
theorem fold_take (k : Nat) : ∀ (m a : List Int), Up a → m.foldl (fun a x => (insU x a).take k) (a.take k) = (m.foldl (fun a x => insU x a) a).take k
  | [], _, _ => rfl
  | x :: m, a, h => by
    rw [List.foldl_cons, List.foldl_cons, insU_take k h]
    exact fold_take k m (insU x a) (insU_up h)
def isDr (x : Int) : Bool := decide (0 ≤ x ∧ x ≤ 72057594037927935)
def botStep (xs : List Int) (i : Nat) : Int := if isDr (xs.getD i 0) = true then (if i > 0 ∧ xs.getD i 0 ≤ xs.getD (i - 1) 0 then 3 else 0) else 1
def botErr (K : Int) (n : Nat) (xs : List Int) : Int := if K < 1 ∨ 40 < K then 1 else if K < n then 2 else faultTo (botStep xs) n
theorem botErr_ok {K : Int} {n : Nat} {xs : List Int} (hl : xs.length = n) (h : botErr K n xs = 0) : 1 ≤ K ∧ K ≤ 40 ∧ (n : Int) ≤ K ∧ Up xs ∧ ∀ x ∈ xs, 0 ≤ x ∧ x ≤ 72057594037927935 := by
  unfold botErr at h
  by_cases h1 : K < 1 ∨ 40 < K
  · rw [if_pos h1] at h; omega
  · rw [if_neg h1] at h
    by_cases h2 : K < n
    · rw [if_pos h2] at h; omega
    · rw [if_neg h2] at h
      have h3 := faultTo_all n h
      have hd : ∀ i, i < n → isDr (xs.getD i 0) = true := by
        intro i hi
        have := h3 i hi
        unfold botStep at this
        by_cases hc : isDr (xs.getD i 0) = true
        · exact hc
        · rw [if_neg hc] at this; omega
      have hs : ∀ i, i + 1 < n → xs.getD i 0 < xs.getD (i + 1) 0 := by
        intro i hi
        have := h3 (i + 1) hi
        unfold botStep at this
        rw [if_pos (hd _ hi), Nat.add_sub_cancel] at this
        by_cases hc : i + 1 > 0 ∧ xs.getD (i + 1) 0 ≤ xs.getD i 0
        · rw [if_pos hc] at this; omega
        · omega
      have hlt : ∀ d i, i + d + 1 < n → xs.getD i 0 < xs.getD (i + d + 1) 0 := by
        intro d
        induction d with
        | zero => exact fun i hi => hs i hi
        | succ d ih => intro i hi; have a := ih i (by omega); have b := hs (i + d + 1) (by omega); exact Int.lt_trans a b
      refine ⟨by omega, by omega, by omega, ?_, fun x hx => ?_⟩
      · rw [Up, List.pairwise_iff_getElem]
        intro i j hi hj hij
        have := hlt (j - i - 1) i (by omega)
        rw [show i + (j - i - 1) + 1 = j by omega] at this
        simpa [List.getD, List.getElem?_eq_getElem hi, List.getElem?_eq_getElem hj] using this
      · obtain ⟨i, hi⟩ := List.getElem?_of_mem hx
        have := hd i (by rw [← hl]; exact (List.getElem?_eq_some_iff.1 hi).1)
        rw [getD_of hi] at this
        exact of_decide_eq_true this
/-- How many there were: by whole parts, and by what is left. -/
theorem guess_is {k m : Nat} (hm : 0 < m) : k * (72057594037927936 / m) + k * (72057594037927936 % m) / m = 72057594037927936 * k / m := by
  have h := Nat.div_add_mod 72057594037927936 m
  have e : 72057594037927936 * k = m * (k * (72057594037927936 / m)) + k * (72057594037927936 % m) := by
    conv => lhs; rw [← h]
    rw [Nat.add_mul, Nat.mul_assoc, Nat.mul_comm (72057594037927936 / m) k, Nat.mul_comm (72057594037927936 % m) k]
  rw [e, Nat.mul_add_div hm]
end Go.Proofs.Ytkliebhpdcjdgaa
