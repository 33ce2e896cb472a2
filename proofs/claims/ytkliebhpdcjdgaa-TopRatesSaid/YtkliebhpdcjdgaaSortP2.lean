/-
  A stable sort in place, as a plain matter of lists: rotations, the merge. No program is named here.
-/
import Derived.Test.YtkliebhpdcjdgaaSortP
namespace Go.Proofs.Ytkliebhpdcjdgaa

theorem rot_right {m i j : Nat} (hi : i ≤ m) (h : i < j) (h0 : 0 < i) (k : Nat) : swI (m - i) (m + j - i) i (rotI (m - i) m (m + (j - i)) k) = rotI (m - i) m (m + j) k := by
  unfold rotI swI
  split <;> (try split) <;> (try split) <;> (try split) <;> (try split) <;> (try split) <;> (try split) <;> omega
theorem rot_end {m i : Nat} (hi : i ≤ m) (k : Nat) : swI (m - i) m i k = rotI (m - i) m (m + i) k := by
  unfold rotI swI
  split <;> (try split) <;> (try split) <;> (try split) <;> (try split) <;> (try split) <;> (try split) <;> omega
theorem sw_zero (a b p : Nat) : swI a b 0 p = p := by unfold swI; rw [if_neg (by omega), if_neg (by omega)]
theorem sw_step {xs ys : List Int} {a b k n : Nat} (hy : ∀ p, el ys p = el xs (swI a b k p)) (hl : ys.length = n) (hk : a + k < b) (hb : b + k < n) (p : Nat) : el (swp ys (a + k) (b + k)) p = el xs (swI a b (k + 1) p) := by
  rw [el_swp (by omega) (by omega), hy, hy, hy]
  unfold swI
  by_cases h1 : p = b + k
  · subst h1
    rw [if_pos rfl, if_neg (by omega), if_neg (by omega), if_neg (by omega), if_pos (by omega)]
    congr 1; omega
  · rw [if_neg h1]
    by_cases h2 : p = a + k
    · subst h2
      rw [if_pos rfl, if_neg (by omega), if_neg (by omega), if_pos (by omega)]
      congr 1; omega
    · rw [if_neg h2]
      by_cases h3 : a ≤ p ∧ p < a + k
      · rw [if_pos h3, if_pos (by omega)]
      · rw [if_neg h3, if_neg (show ¬ (a ≤ p ∧ p < a + (k + 1)) by omega)]
        by_cases h4 : b ≤ p ∧ p < b + k
        · rw [if_pos h4, if_pos (by omega)]
        · rw [if_neg h4, if_neg (show ¬ (b ≤ p ∧ p < b + (k + 1)) by omega)]
/-- What the merge finds. -/
structure SymPre (κ : Int → Int) (n a m b : Nat) (xs : List Int) : Prop where
  am : a < m
  mb : m < b
  bn : b ≤ n
  len : xs.length = n
  s1 : Srt κ xs a m
  s2 : Srt κ xs m b
  crs : Crs κ xs a m b
/-- What it leaves. -/
structure SymPost (κ : Int → Int) (n a b : Nat) (xs zs : List Int) : Prop where
  mv : Mv n a b xs zs
  srt : Srt κ zs a b
section
variable {κ : Int → Int} {xs ys zs us : List Int} {n a m b i j k h : Nat}
theorem b1_up (p : SymPre κ n a m b xs) (hh : h < b) (hm : m ≤ h) (hc : κ (el xs h) < κ (el xs a)) : ∀ k, m ≤ k → k < h + 1 → Lt κ (el xs k) (el xs a) := fun k h1 h2 => by
  by_cases e : k = h
  · subst e; exact .of hc
  · exact (p.s2 k h h1 (by omega) hh).trans (.of hc)
theorem b1_dn (p : SymPre κ n a m b xs) (hh : h < b) (hm : m ≤ h) (hc : ¬ κ (el xs h) < κ (el xs a)) : ∀ k, h ≤ k → k < b → Lt κ (el xs a) (el xs k) := fun k h1 h2 => by
  have hl : Lt κ (el xs a) (el xs h) := .not hc (p.crs a h (Nat.le_refl _) p.am hm hh)
  by_cases e : k = h
  · subst e; exact hl
  · exact hl.trans (p.s2 h k hm (by omega) h2)
structure Sh1 (xs zs : List Int) (a k : Nat) : Prop where
  here : el zs k = el xs a
  low : ∀ p, a ≤ p → p < k → el zs p = el xs (p + 1)
  high : ∀ p, k < p → el zs p = el xs p
theorem Sh1.start : Sh1 xs xs a a := ⟨rfl, fun p h1 h2 => by omega, fun _ _ => rfl⟩
theorem Sh1.step (s : Sh1 xs zs a k) (ha : a ≤ k) (hl : k + 1 < zs.length) : Sh1 xs (swp zs k (k + 1)) a (k + 1) := by
  have e := fun p => el_swp (xs := zs) (i := k) (j := k + 1) (by omega) (by omega) p
  refine ⟨by rw [e, if_pos rfl]; exact s.here, fun p h1 h2 => ?_, fun p h1 => ?_⟩
  · rw [e, if_neg (by omega)]
    by_cases pk : p = k
    · rw [if_pos pk, s.high (k + 1) (by omega), pk]
    · rw [if_neg pk]; exact s.low p h1 (by omega)
  · rw [e, if_neg (by omega), if_neg (by omega)]; exact s.high p (by omega)
theorem Sh1.done (p : SymPre κ n a m b xs) (hm : m = a + 1) (s : Sh1 xs zs a k) (hk : a ≤ k) (hkb : k < b) (h1 : ∀ q, m ≤ q → q < k + 1 → Lt κ (el xs q) (el xs a)) (h2 : ∀ q, k + 1 ≤ q → q < b → Lt κ (el xs a) (el xs q)) : Srt κ zs a b := by
  intro u v hu huv hv
  by_cases u1 : u < k
  · rw [s.low u hu u1]
    by_cases v1 : v < k
    · rw [s.low v (by omega) v1]; exact p.s2 _ _ (by omega) (by omega) (by omega)
    · by_cases v2 : v = k
      · rw [v2, s.here]; exact h1 _ (by omega) (by omega)
      · rw [s.high v (by omega)]; exact p.s2 _ _ (by omega) (by omega) hv
  · by_cases u2 : u = k
    · rw [u2, s.here, s.high v (by omega)]; exact h2 _ (by omega) hv
    · rw [s.high u (by omega), s.high v (by omega)]; exact p.s2 _ _ (by omega) huv hv
theorem b2_up (p : SymPre κ n a m b xs) (hh : h < m) (ha : a ≤ h) (hc : ¬ κ (el xs m) < κ (el xs h)) : ∀ k, a ≤ k → k < h + 1 → Lt κ (el xs k) (el xs m) := fun k h1 h2 => by
  have hl : Lt κ (el xs h) (el xs m) := .not hc (p.crs h m ha hh (Nat.le_refl _) p.mb)
  by_cases e : k = h
  · subst e; exact hl
  · exact (p.s1 k h h1 (by omega) hh).trans hl
theorem b2_dn (p : SymPre κ n a m b xs) (hh : h < m) (ha : a ≤ h) (hc : κ (el xs m) < κ (el xs h)) : ∀ k, h ≤ k → k < m → Lt κ (el xs m) (el xs k) := fun k h1 h2 => by
  by_cases e : k = h
  · subst e; exact .of hc
  · exact (Lt.of hc).trans (p.s1 h k ha (by omega) h2)
structure Sh2 (xs zs : List Int) (m k : Nat) : Prop where
  here : el zs k = el xs m
  high : ∀ p, k < p → p ≤ m → el zs p = el xs (p - 1)
  low : ∀ p, p < k → el zs p = el xs p
theorem Sh2.start : Sh2 xs xs m m := ⟨rfl, fun p h1 h2 => by omega, fun _ _ => rfl⟩
theorem Sh2.step (s : Sh2 xs zs m k) (h0 : 0 < k) (hk : k ≤ m) (hl : k < zs.length) : Sh2 xs (swp zs k (k - 1)) m (k - 1) := by
  have e := fun p => el_swp (xs := zs) (i := k) (j := k - 1) (by omega) (by omega) p
  refine ⟨by rw [e, if_pos rfl]; exact s.here, fun p h1 h2 => ?_, fun p h1 => ?_⟩
  · rw [e, if_neg (by omega)]
    by_cases pk : p = k
    · rw [if_pos pk, s.low (k - 1) (by omega), pk]
    · rw [if_neg pk]; exact s.high p (by omega) h2
  · rw [e, if_neg (by omega), if_neg (by omega)]; exact s.low p (by omega)
theorem Sh2.done (p : SymPre κ n a m b xs) (hb : b = m + 1) (s : Sh2 xs zs m k) (hk : a ≤ k) (hkm : k ≤ m) (h1 : ∀ q, a ≤ q → q < k → Lt κ (el xs q) (el xs m)) (h2 : ∀ q, k ≤ q → q < m → Lt κ (el xs m) (el xs q)) : Srt κ zs a b := by
  intro u v hu huv hv
  by_cases v1 : k < v
  · rw [s.high v v1 (by omega)]
    by_cases u1 : k < u
    · rw [s.high u u1 (by omega)]; exact p.s1 _ _ (by omega) (by omega) (by omega)
    · by_cases u2 : u = k
      · rw [u2, s.here]; exact h2 _ (by omega) (by omega)
      · rw [s.low u (by omega)]; exact p.s1 _ _ hu (by omega) (by omega)
  · by_cases v2 : v = k
    · rw [v2, s.here, s.low u (by omega)]; exact h1 _ hu (by omega)
    · rw [s.low u (by omega), s.low v (by omega)]; exact p.s1 _ _ hu huv (by omega)
/-- The merge's search: from s0 to r0; q is the last place that is looked at. -/
structure Sea (κ : Int → Int) (xs : List Int) (s0 r0 q s r : Nat) : Prop where
  o1 : s0 ≤ s
  o2 : s ≤ r
  o3 : r ≤ r0
  up : ∀ c, s0 ≤ c → c < s → Lt κ (el xs c) (el xs (q - c))
  dn : ∀ c, r ≤ c → c < r0 → Lt κ (el xs (q - c)) (el xs c)
theorem Sea.start {s0 r0 q : Nat} (h : s0 ≤ r0) : Sea κ xs s0 r0 q s0 r0 := ⟨Nat.le_refl _, h, Nat.le_refl _, fun c h1 h2 => by omega, fun c h1 h2 => by omega⟩
theorem Sea.more (p : SymPre κ n a m b xs) {s0 r0 q s r c : Nat} (h : Sea κ xs s0 r0 q s r) (ha : a ≤ s0) (hm : r0 ≤ m) (hq1 : ∀ c, s0 ≤ c → c < r0 → m ≤ q - c ∧ q - c < b) (hqq : r0 ≤ q + 1) (h1 : s ≤ c) (h2 : c < r) (hc : ¬ κ (el xs (q - c)) < κ (el xs c)) : Sea κ xs s0 r0 q (c + 1) r := by
  have o1 := h.o1
  have o3 := h.o3
  have hl : Lt κ (el xs c) (el xs (q - c)) := .not hc (p.crs c (q - c) (by omega) (by omega) (hq1 c (by omega) (by omega)).1 (hq1 c (by omega) (by omega)).2)
  refine ⟨by omega, by omega, o3, fun d h3 h4 => ?_, h.dn⟩
  by_cases e : d = c
  · subst e; exact hl
  · exact ((p.s1 d c (by omega) (by omega) (by omega)).trans hl).trans (p.s2 _ _ (hq1 c (by omega) (by omega)).1 (by omega) (hq1 d h3 (by omega)).2)
theorem Sea.less (p : SymPre κ n a m b xs) {s0 r0 q s r c : Nat} (h : Sea κ xs s0 r0 q s r) (ha : a ≤ s0) (hm : r0 ≤ m) (hq1 : ∀ c, s0 ≤ c → c < r0 → m ≤ q - c ∧ q - c < b) (hqq : r0 ≤ q + 1) (h1 : s ≤ c) (h2 : c < r) (hc : κ (el xs (q - c)) < κ (el xs c)) : Sea κ xs s0 r0 q s c := by
  have o1 := h.o1
  have o3 := h.o3
  refine ⟨o1, h1, by omega, h.up, fun d h3 h4 => ?_⟩
  by_cases e : d = c
  · subst e; exact .of hc
  · exact ((p.s2 _ _ (hq1 d (by omega) h4).1 (by omega) (hq1 c (by omega) (by omega)).2).trans (.of hc)).trans (p.s1 c d (by omega) (by omega) (by omega))
/-- What the rotation leaves: two halves, each to be merged, all of the one ahead of all of the other. -/
structure Cut (κ : Int → Int) (n a st mid en b : Nat) (ys : List Int) : Prop where
  l1 : Srt κ ys a st
  l2 : Srt κ ys st mid
  lc : Crs κ ys a st mid
  r1 : Srt κ ys mid en
  r2 : Srt κ ys en b
  rc : Crs κ ys mid en b
  apart : ∀ i j, a ≤ i → i < mid → mid ≤ j → j < b → Lt κ (el ys i) (el ys j)
theorem cut_of (p : SymPre κ n a m b xs) {mid st s0 r0 : Nat} (hmid : mid = (a + b) / 2) (hs : if mid < m then s0 = mid + m - b ∧ r0 = mid else s0 = a ∧ r0 = m) (h : Sea κ xs s0 r0 (mid + m - 1) st st) (hy : ∀ k, el ys k = el xs (rotI st m (mid + m - st) k)) :
    a ≤ st ∧ st ≤ mid ∧ st ≤ m ∧ mid ≤ mid + m - st ∧ m ≤ mid + m - st ∧ mid + m - st ≤ b ∧ Cut κ n a st mid (mid + m - st) b ys := by
  have am := p.am
  have mb := p.mb
  have o1 := h.o1
  have o3 := h.o3
  have g : a ≤ st ∧ st ≤ mid ∧ st ≤ m ∧ mid ≤ mid + m - st ∧ m ≤ mid + m - st ∧ mid + m - st ≤ b := by
    split at hs <;> omega
  obtain ⟨g1, g2, g3, g4, g5, g6⟩ := g
  have L1 : ∀ k, k < st → el ys k = el xs k := fun k hk => by rw [hy]; unfold rotI; rw [if_pos hk]
  have L2 : ∀ k, st ≤ k → k < mid → el ys k = el xs (k + (m - st)) := fun k h1 h2 => by rw [hy]; unfold rotI; rw [if_neg (by omega), if_pos (by omega)]
  have R1 : ∀ k, mid ≤ k → k < mid + m - st → el ys k = el xs (k - (mid - st)) := fun k h1 h2 => by
    rw [hy]; unfold rotI; rw [if_neg (by omega), if_neg (by omega), if_pos (by omega)]; congr 1; omega
  have R2 : ∀ k, mid + m - st ≤ k → el ys k = el xs k := fun k h1 => by rw [hy]; unfold rotI; rw [if_neg (by omega), if_neg (by omega), if_neg (by omega)]
  refine ⟨g1, g2, g3, g4, g5, g6, ⟨?_, ?_, ?_, ?_, ?_, ?_, ?_⟩⟩
  · intro i j h1 h2 h3
    rw [L1 i (by omega), L1 j h3]; exact p.s1 i j h1 h2 (by omega)
  · intro i j h1 h2 h3
    rw [L2 i h1 (by omega), L2 j (by omega) h3]; exact p.s2 _ _ (by omega) (by omega) (by omega)
  · intro i j h1 h2 h3 h4
    rw [L1 i h2, L2 j h3 h4]; exact p.crs _ _ h1 (by omega) (by omega) (by omega)
  · intro i j h1 h2 h3
    rw [R1 i h1 (by omega), R1 j (by omega) h3]; exact p.s1 _ _ (by omega) (by omega) (by omega)
  · intro i j h1 h2 h3
    rw [R2 i h1, R2 j (by omega)]; exact p.s2 _ _ (by omega) h2 h3
  · intro i j h1 h2 h3 h4
    rw [R1 i h1 h2, R2 j h3]; exact p.crs _ _ (by omega) (by omega) (by omega) h4
  · -- the last of what goes ahead, the first of what comes behind
    have A : ∀ c d, a ≤ c → c < st → st ≤ d → d < m → Lt κ (el xs c) (el xs d) := fun c d h1 h2 h3 h4 => p.s1 c d h1 (by omega) h4
    have B : ∀ c d, m ≤ c → c < mid + m - st → mid + m - st ≤ d → d < b → Lt κ (el xs c) (el xs d) := fun c d h1 h2 h3 h4 => p.s2 c d h1 (by omega) h4
    have C : ∀ c d, a ≤ c → c < st → mid + m - st ≤ d → d < b → Lt κ (el xs c) (el xs d) := fun c d h1 h2 h3 h4 => by
      have hs0 : s0 < st := by split at hs <;> omega
      have hl := h.up (st - 1) (by omega) (by omega)
      have e : mid + m - 1 - (st - 1) = mid + m - st := by omega
      rw [e] at hl
      have hl2 : Lt κ (el xs c) (el xs (mid + m - st)) := by
        by_cases ec : c = st - 1
        · rw [ec]; exact hl
        · exact (p.s1 c (st - 1) h1 (by omega) (by omega)).trans hl
      by_cases ed : d = mid + m - st
      · rw [ed]; exact hl2
      · exact hl2.trans (p.s2 _ _ (by omega) (by omega) h4)
    have D : ∀ c d, m ≤ c → c < mid + m - st → st ≤ d → d < m → Lt κ (el xs c) (el xs d) := fun c d h1 h2 h3 h4 => by
      have hr0 : st < r0 := by split at hs <;> omega
      have hl := h.dn st (Nat.le_refl _) hr0
      have hl2 : Lt κ (el xs c) (el xs st) := by
        by_cases ec : c = mid + m - 1 - st
        · rw [ec]; exact hl
        · exact (p.s2 c (mid + m - 1 - st) h1 (by omega) (by omega)).trans hl
      by_cases ed : d = st
      · rw [ed]; exact hl2
      · exact hl2.trans (p.s1 _ _ (by omega) (by omega) h4)
    intro i j h1 h2 h3 h4
    by_cases i1 : i < st
    · rw [L1 i i1]
      by_cases j1 : j < mid + m - st
      · rw [R1 j h3 j1]; exact A _ _ h1 i1 (by omega) (by omega)
      · rw [R2 j (by omega)]; exact C _ _ h1 i1 (by omega) h4
    · rw [L2 i (by omega) h2]
      by_cases j1 : j < mid + m - st
      · rw [R1 j h3 j1]; exact D _ _ (by omega) (by omega) (by omega) (by omega)
      · rw [R2 j (by omega)]; exact B _ _ (by omega) (by omega) (by omega) h4
/-- Both halves merged. -/
theorem cut_done {st mid en : Nat} (c : Cut κ n a st mid en b ys) (hm : a ≤ mid) (h1 : SymPost κ n a mid ys zs) (h2 : SymPost κ n mid b zs us) (hb : mid ≤ b) : Srt κ us a b := by
  intro i j hi hij hj
  by_cases j1 : j < mid
  · rw [h2.mv.out i (by omega), h2.mv.out j (by omega)]
    exact h1.srt i j hi hij j1
  · by_cases i1 : i < mid
    · rw [h2.mv.out i (by omega)]
      obtain ⟨p, p1, p2, e1⟩ := h1.mv.inn i hi i1
      obtain ⟨q, q1, q2, e2⟩ := h2.mv.inn j (by omega) hj
      rw [e1, e2, h1.mv.out q (by omega)]
      exact c.apart p q p1 p2 q1 q2
    · exact h2.srt i j (by omega) hij hj
theorem cut_left {st mid en : Nat} (c : Cut κ n a st mid en b ys) (h : ¬ (a < st ∧ st < mid)) (h1 : a ≤ st) (h2 : st ≤ mid) : SymPost κ n a mid ys ys := by
  refine ⟨Mv.refl _ _ _ _, ?_⟩
  by_cases e : a = st
  · rw [e]; exact c.l2
  · have : st = mid := by omega
    rw [← this]; exact c.l1
theorem cut_right {st mid en : Nat} (c : Cut κ n a st mid en b ys) (hz : ∀ k, mid ≤ k → el zs k = el ys k) (h : ¬ (mid < en ∧ en < b)) (h1 : mid ≤ en) (h2 : en ≤ b) : SymPost κ n mid b zs zs := by
  refine ⟨Mv.refl _ _ _ _, ?_⟩
  intro i j hi hij hj
  rw [hz i hi, hz j (by omega)]
  by_cases e : mid = en
  · exact c.r2 i j (by omega) hij hj
  · have : en = b := by omega
    exact c.r1 i j hi hij (by omega)
end
end Go.Proofs.Ytkliebhpdcjdgaa
