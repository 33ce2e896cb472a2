/-
  A few counters by their keys, as a plain matter of lists: which may be; one more; what all of them lose. No program is named here.
-/
import Derived.Test.YtfopihlbdceepaaGreatTableP
namespace Go.Proofs.YtfopihlbdceepaaGreat

/-- A key, and how often it came. -/
abbrev Ct := Int × Int
abbrev UpK (l : List Ct) : Prop := l.Pairwise fun a b => a.1 < b.1
def cAt (l : List Ct) (i : Nat) : Ct := l.getD i (0, 0)
theorem cAt_of {l : List Ct} {i : Nat} {p : Ct} (h : l[i]? = some p) : cAt l i = p := by simp [cAt, List.getD, h]
def ctStep (l : List Ct) (i : Nat) : Int := if (cAt l i).2 < 1 ∨ 1000000000000 < (cAt l i).2 then 1 else if i > 0 ∧ (cAt l i).1 ≤ (cAt l (i - 1)).1 then 3 else 0
def fwBad (K L : Int) : Prop := K < 1 ∨ 16 < K ∨ L < 0 ∨ 1000000000000 < L
instance (K L : Int) : Decidable (fwBad K L) := by unfold fwBad; infer_instance
def fwErr (K L : Int) (n : Nat) (l : List Ct) : Int := if fwBad K L then 1 else if K < n then 2 else faultTo (ctStep l) n
structure FwOk (K L : Int) (n : Nat) (l : List Ct) : Prop where
  k1 : 1 ≤ K
  k2 : K ≤ 16
  l1 : 0 ≤ L
  l2 : L ≤ 1000000000000
  nk : (n : Int) ≤ K
  up : UpK l
  cnt : ∀ p ∈ l, 1 ≤ p.2 ∧ p.2 ≤ 1000000000000
theorem fwErr_ok {K L : Int} {n : Nat} {l : List Ct} (hl : l.length = n) (h : fwErr K L n l = 0) : FwOk K L n l := by
  unfold fwErr at h
  by_cases h1 : fwBad K L
  · rw [if_pos h1] at h; omega
  · rw [if_neg h1] at h
    by_cases h2 : K < n
    · rw [if_pos h2] at h; omega
    · rw [if_neg h2] at h
      have h3 := faultTo_all n h
      have hd : ∀ i, i < n → 1 ≤ (cAt l i).2 ∧ (cAt l i).2 ≤ 1000000000000 := by
        intro i hi
        have := h3 i hi
        unfold ctStep at this
        by_cases hc : (cAt l i).2 < 1 ∨ 1000000000000 < (cAt l i).2
        · rw [if_pos hc] at this; omega
        · omega
      have hs : ∀ i, i + 1 < n → (cAt l i).1 < (cAt l (i + 1)).1 := by
        intro i hi
        have := h3 (i + 1) hi
        have hd' := hd (i + 1) hi
        unfold ctStep at this
        rw [if_neg (by omega), Nat.add_sub_cancel] at this
        by_cases hc : i + 1 > 0 ∧ (cAt l (i + 1)).1 ≤ (cAt l i).1
        · rw [if_pos hc] at this; omega
        · omega
      have hlt : ∀ d i, i + d + 1 < n → (cAt l i).1 < (cAt l (i + d + 1)).1 := by
        intro d
        induction d with
        | zero => exact fun i hi => hs i hi
        | succ d ih => intro i hi; have a := ih i (by omega); have b := hs (i + d + 1) (by omega); exact Int.lt_trans a b
      unfold fwBad at h1
      refine ⟨by omega, by omega, by omega, by omega, by omega, ?_, fun p hp => ?_⟩
      · rw [UpK, List.pairwise_iff_getElem]
        intro i j hi hj hij
        have := hlt (j - i - 1) i (by omega)
        rw [show i + (j - i - 1) + 1 = j by omega, cAt_of (List.getElem?_eq_getElem hi), cAt_of (List.getElem?_eq_getElem hj)] at this
        exact this
      · obtain ⟨i, hi⟩ := List.getElem?_of_mem hp
        have := hd i (by rw [← hl]; exact (List.getElem?_eq_some_iff.1 hi).1)
        rwa [cAt_of hi] at this
/-- A list that may be meets the steps. -/
theorem faults_ok {l : List Ct} {n : Nat} (hl : l.length = n) (hu : UpK l) (hc : ∀ p ∈ l, 1 ≤ p.2 ∧ p.2 ≤ 1000000000000) : ∀ k, k ≤ n → faultTo (ctStep l) k = 0
  | 0, _ => rfl
  | k + 1, hk => by
    refine faultTo_next (faults_ok hl hu hc k (by omega)) ?_
    have hkl : k < l.length := by omega
    have h1 := hc _ (List.getElem_mem hkl)
    have e := cAt_of (List.getElem?_eq_getElem hkl)
    unfold ctStep
    rw [e, if_neg (by omega)]
    by_cases h0 : k > 0
    · have h2 := (List.pairwise_iff_getElem.1 hu) (k - 1) k (by omega) hkl (by omega)
      have e2 := cAt_of (List.getElem?_eq_getElem (l := l) (i := k - 1) (by omega))
      rw [if_neg (by rw [e2]; omega)]
    · rw [if_neg (by omega)]
/-- A key, so often more. -/
def addC (key n : Int) : List Ct → List Ct
  | [] => [(key, n)]
  | p :: l => if p.1 < key then p :: addC key n l else if p.1 = key then (p.1, p.2 + n) :: l else (key, n) :: p :: l
/-- How often a key came. -/
def cnt (l : List Ct) (key : Int) : Int := ((l.filter fun p => p.1 == key).map (·.2)).sum
theorem cnt_nil (key : Int) : cnt [] key = 0 := rfl
theorem cnt_cons (p : Ct) (l : List Ct) (key : Int) : cnt (p :: l) key = (if p.1 = key then p.2 else 0) + cnt l key := by
  unfold cnt
  rw [List.filter_cons]
  by_cases e : p.1 = key
  · rw [if_pos (by simpa using e), if_pos e]; simp
  · rw [if_neg (by simpa using e), if_neg e]; simp
theorem addC_cnt (key n : Int) : ∀ (l : List Ct) (k : Int), cnt (addC key n l) k = cnt l k + if k = key then n else 0
  | [], k => by
    rw [addC, cnt_cons, cnt_nil]
    by_cases e : key = k
    · rw [if_pos e, if_pos e.symm]; omega
    · rw [if_neg e, if_neg (Ne.symm e)]
  | p :: l, k => by
    unfold addC
    split
    · rw [cnt_cons, cnt_cons, addC_cnt key n l k]; omega
    · split
      · rename_i e
        rw [cnt_cons, cnt_cons]
        dsimp only
        by_cases e2 : p.1 = k
        · rw [if_pos e2, if_pos e2, if_pos (by omega)]; omega
        · rw [if_neg e2, if_neg e2, if_neg (by omega)]; omega
      · rw [cnt_cons]
        dsimp only
        by_cases e2 : key = k
        · rw [if_pos e2, if_pos e2.symm]; omega
        · rw [if_neg e2, if_neg (Ne.symm e2)]; omega
theorem addC_keys (key n : Int) : ∀ (l : List Ct) (k : Int), k ∈ (addC key n l).map (·.1) ↔ k = key ∨ k ∈ l.map (·.1)
  | [], k => by simp [addC]
  | p :: l, k => by
    unfold addC
    split
    · rw [List.map_cons, List.mem_cons, addC_keys key n l k, List.map_cons, List.mem_cons]
      constructor
      · rintro (h | h | h) <;> simp [h]
      · rintro (h | h | h) <;> simp [h]
    · split
      · rename_i e
        subst e
        simp
      · simp
theorem addC_up {key n : Int} : ∀ {l : List Ct}, UpK l → UpK (addC key n l)
  | [], _ => by simp [addC, UpK]
  | p :: l, h => by
    rw [UpK, List.pairwise_cons] at h
    unfold addC
    split
    · rename_i hp
      rw [UpK, List.pairwise_cons]
      refine ⟨fun z hz => ?_, addC_up h.2⟩
      have hz1 : z.1 ∈ (addC key n l).map (·.1) := List.mem_map.2 ⟨z, hz, rfl⟩
      rcases (addC_keys key n l z.1).1 hz1 with e | e
      · omega
      · obtain ⟨q, hq, e⟩ := List.mem_map.1 e
        have := h.1 q hq; omega
    · split
      · rw [UpK, List.pairwise_cons]; exact ⟨fun z hz => h.1 z hz, h.2⟩
      · rename_i h1 h2
        rw [UpK, List.pairwise_cons, List.pairwise_cons]
        refine ⟨fun z hz => ?_, h⟩
        rcases List.mem_cons.1 hz with e | e
        · subst e; dsimp only; omega
        · have := h.1 z e; dsimp only; omega
theorem addC_len (key n : Int) : ∀ l : List Ct, l.length ≤ (addC key n l).length ∧ (addC key n l).length ≤ l.length + 1
  | [] => by simp [addC]
  | p :: l => by
    unfold addC
    have := addC_len key n l
    split
    · simp; omega
    · split <;> simp
/-- Rising lists of the same keys that count the same are the same. -/
theorem upk_ext : ∀ {a b : List Ct}, UpK a → UpK b → (∀ k, k ∈ a.map (·.1) ↔ k ∈ b.map (·.1)) → (∀ k, cnt a k = cnt b k) → a = b
  | [], [], _, _, _, _ => rfl
  | [], q :: b, _, _, h, _ => by have := (h q.1).2 (by simp); simp at this
  | p :: a, [], _, _, h, _ => by have := (h p.1).1 (by simp); simp at this
  | p :: a, q :: b, ha, hb, h, hc => by
    rw [UpK, List.pairwise_cons] at ha hb
    have hp := (h p.1).1 (by simp)
    have hq := (h q.1).2 (by simp)
    have e : p.1 = q.1 := by
      rw [List.map_cons, List.mem_cons] at hp hq
      rcases hp with e | e
      · exact e
      · rcases hq with e2 | e2
        · exact e2.symm
        · obtain ⟨y, hy, ey⟩ := List.mem_map.1 e
          obtain ⟨z, hz, ez⟩ := List.mem_map.1 e2
          have h1 := hb.1 y hy
          have h2 := ha.1 z hz
          omega
    have n1 : cnt a p.1 = 0 := by
      unfold cnt
      rw [List.filter_eq_nil_iff.2 (fun z hz => by have := ha.1 z hz; simp; omega)]; rfl
    have n2 : cnt b p.1 = 0 := by
      unfold cnt
      rw [List.filter_eq_nil_iff.2 (fun z hz => by have := hb.1 z hz; simp; omega)]; rfl
    have e2 : p.2 = q.2 := by
      have := hc p.1
      rw [cnt_cons, cnt_cons, n1, n2, if_pos rfl, if_pos e.symm] at this
      omega
    have epq : p = q := Prod.ext e e2
    subst epq
    congr 1
    refine upk_ext ha.2 hb.2 (fun k => ⟨fun hk => ?_, fun hk => ?_⟩) (fun k => ?_)
    · have := (h k).1 (by rw [List.map_cons]; exact List.mem_cons_of_mem _ hk)
      rw [List.map_cons, List.mem_cons] at this
      rcases this with e | e
      · obtain ⟨z, hz, ez⟩ := List.mem_map.1 hk
        have := ha.1 z hz; omega
      · exact e
    · have := (h k).2 (by rw [List.map_cons]; exact List.mem_cons_of_mem _ hk)
      rw [List.map_cons, List.mem_cons] at this
      rcases this with e | e
      · obtain ⟨z, hz, ez⟩ := List.mem_map.1 hk
        have := hb.1 z hz; omega
      · exact e
    · have := hc k
      rw [cnt_cons, cnt_cons] at this
      omega
/-- All of them, by their keys. -/
def allC (l : List Ct) : List Ct := l.foldl (fun a p => addC p.1 p.2 a) []
theorem foldC_up : ∀ (l a : List Ct), UpK a → UpK (l.foldl (fun a p => addC p.1 p.2 a) a)
  | [], _, h => h
  | p :: l, a, h => foldC_up l _ (addC_up h)
theorem foldC_keys : ∀ (l a : List Ct) (k : Int), k ∈ (l.foldl (fun a p => addC p.1 p.2 a) a).map (·.1) ↔ k ∈ a.map (·.1) ∨ k ∈ l.map (·.1)
  | [], a, k => by simp
  | p :: l, a, k => by
    rw [List.foldl_cons, foldC_keys l, addC_keys, List.map_cons, List.mem_cons]
    constructor
    · rintro ((h | h) | h) <;> simp [h]
    · rintro (h | h | h) <;> simp [h]
theorem foldC_cnt : ∀ (l a : List Ct) (k : Int), cnt (l.foldl (fun a p => addC p.1 p.2 a) a) k = cnt a k + cnt l k
  | [], a, k => by rw [List.foldl_nil, cnt_nil]; omega
  | p :: l, a, k => by
    rw [List.foldl_cons, foldC_cnt l, addC_cnt, cnt_cons]
    by_cases e : k = p.1
    · rw [if_pos e, if_pos e.symm]; omega
    · rw [if_neg e, if_neg (Ne.symm e)]; omega
theorem allC_up (l : List Ct) : UpK (allC l) := foldC_up l [] (by simp [UpK])
theorem allC_of {l a : List Ct} (h : UpK a) (hk : ∀ k, k ∈ a.map (·.1) ↔ k ∈ l.map (·.1)) (hc : ∀ k, cnt a k = cnt l k) : a = allC l :=
  upk_ext h (allC_up l) (fun k => by rw [hk, allC, foldC_keys]; simp) (fun k => by rw [hc, allC, foldC_cnt, cnt_nil]; omega)
theorem allC_append (l m : List Ct) : allC (l ++ m) = m.foldl (fun a p => addC p.1 p.2 a) (allC l) := by rw [allC, List.foldl_append]; rfl
theorem allC_self {l : List Ct} (h : UpK l) : allC l = l := (allC_of h (fun _ => Iff.rfl) (fun _ => rfl)).symm
/-- Each with so much less, those that have no more are out. -/
def lessC (d : Int) (l : List Ct) : List Ct := (l.filter fun p => decide (d < p.2)).map fun p => (p.1, p.2 - d)
end Go.Proofs.YtfopihlbdceepaaGreat
