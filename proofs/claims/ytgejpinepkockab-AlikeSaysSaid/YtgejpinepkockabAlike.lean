/-
  alike.set, culref.Things, alike.First: the walks. Conditions: the slices read as lists of numbers.
-/
import Derived.Test.YtgejpinepkockabDigit3
namespace Go.Proofs.Ytgejpinepkockab
open Go.RowKit

/-- The first fault. -/
def eTo (f : Nat → Int) : Nat → Int
  | 0 => 0
  | k + 1 => if eTo f k = 0 then f k else eTo f k
theorem eTo_bad {f : Nat → Int} {k : Nat} {E : Int} (h : eTo f k = 0) (hs : f k = E) (hE : E ≠ 0) : ∀ m, k < m → eTo f m = E
  | 0, hm => by omega
  | m + 1, hm => by
    by_cases e : k = m
    · subst e; rw [eTo, if_pos h, hs]
    · have ih := eTo_bad h hs hE m (by omega)
      rw [eTo, ih, if_neg hE]
theorem eTo_next {f : Nat → Int} {k : Nat} (h : eTo f k = 0) (hs : f k = 0) : eTo f (k + 1) = 0 := by rw [eTo, if_pos h, hs]
theorem eTo_all {f : Nat → Int} : ∀ m, eTo f m = 0 → ∀ k, k < m → f k = 0
  | 0, _, k, hk => by omega
  | m + 1, h, k, hk => by
    rw [eTo] at h
    by_cases e : eTo f m = 0
    · rw [if_pos e] at h
      by_cases ek : k = m
      · subst ek; exact h
      · exact eTo_all m e k (by omega)
    · rw [if_neg e] at h; exact absurd h e
def prevOf (ls : List Int) (k : Nat) : Int := if k = 0 then -1 else ls.getD (k - 1) 0
def thStep (m : Nat) (ls : List Int) (k : Nat) : Int := if ls.getD k 0 < 0 ∨ (m : Int) ≤ ls.getD k 0 then 1 else if ls.getD k 0 ≤ prevOf ls k then 3 else 0
def thErr (n m : Nat) (ls : List Int) : Int := if m < n then 2 else eTo (thStep m ls) n
theorem thStep_1 {m k : Nat} {ls : List Int} {x : Int} (hx : ls[k]? = some x) (h : x < 0 ∨ (m : Int) ≤ x) : thStep m ls k = 1 := by unfold thStep; rw [getD_of hx, if_pos h]
theorem thStep_3 {m k : Nat} {ls : List Int} {x : Int} (hx : ls[k]? = some x) (h : ¬ (x < 0 ∨ (m : Int) ≤ x)) (h2 : x ≤ prevOf ls k) : thStep m ls k = 3 := by unfold thStep; rw [getD_of hx, if_neg h, if_pos h2]
theorem thStep_0 {m k : Nat} {ls : List Int} {x : Int} (hx : ls[k]? = some x) (h : ¬ (x < 0 ∨ (m : Int) ≤ x)) (h2 : ¬ x ≤ prevOf ls k) : thStep m ls k = 0 := by unfold thStep; rw [getD_of hx, if_neg h, if_neg h2]
theorem thErr_zero {n m : Nat} {ls : List Int} (h : thErr n m ls = 0) : n ≤ m ∧ eTo (thStep m ls) n = 0 := by
  unfold thErr at h
  by_cases h1 : m < n
  · rw [if_pos h1] at h; omega
  · rw [if_neg h1] at h; exact ⟨by omega, h⟩
theorem th_in {n m k : Nat} {ls : List Int} {x : Int} (h : eTo (thStep m ls) n = 0) (hk : k < n) (hx : ls[k]? = some x) : 0 ≤ x ∧ x < (m : Int) := by
  have h1 := eTo_all n h k hk
  unfold thStep at h1
  rw [getD_of hx] at h1
  by_cases h2 : x < 0 ∨ (m : Int) ≤ x
  · rw [if_pos h2] at h1; omega
  · omega
section
variable {A B : Option Addr} {n c m d : Nat} {ls os : List Int} {w : World}
set_option maxRecDepth 20000 in
set_option maxHeartbeats 1600000 in
theorem set_any (h : Si w A n c ls) (hm12 : m ≤ 12) :
    Calls Try.prog 79 #[.slice A n c, .int .i64 m] w fun e w' => e = .returned (.int .i64 (thErr n m ls)) ∧ w = w' := by
  have hm := h.len_max
  by_cases g1 : m < n
  · have E := hide (show thErr n m ls = 2 from if_pos g1)
    go_enter Try.func79, Try.ntmps79
    go_wp2_with fail
    go_ret
    exact ⟨by rw [E.out]; rfl, rfl⟩
  have HE := hide (show thErr n m ls = eTo (thStep m ls) n from if_neg g1)
  go_enter Try.func79, Try.ntmps79
  go_wp2_with fail
  go_loop [13] (fun i => ∃ k : Nat, k ≤ n ∧ i = .int .i64 k ∧ eTo (thStep m ls) k = 0) (fun i => n - (intOf i).toNat)
  case atStart => exact ⟨0, Nat.zero_le _, rfl, rfl⟩
  case round =>
    obtain ⟨k, hk, rfl, hok⟩ := hrel
    have HOK := hide hok
    clear hok
    by_cases hlt : k < n
    · obtain ⟨ad, x, rfl, hbk, hx, hc⟩ := h.icell hlt
      have HX := hide hx
      by_cases x0 : x < 0
      · have B := hide (eTo_bad HOK.out (thStep_1 hx (.inl x0)) (by decide) n hlt)
        clear hx
        go_wp2_with fail
        go_ret
        exact ⟨by rw [HE.out, B.out]; rfl, rfl⟩
      by_cases x1 : (m : Int) ≤ x
      · have B := hide (eTo_bad HOK.out (thStep_1 hx (.inr x1)) (by decide) n hlt)
        clear hx
        go_wp2_with fail
        go_ret
        exact ⟨by rw [HE.out, B.out]; rfl, rfl⟩
      rcases Nat.eq_zero_or_pos k with k0 | k0
      · have HN := hide (eTo_next HOK.out (thStep_0 hx (by omega) (by unfold prevOf; rw [if_pos k0]; omega)))
        have q0 : (k : Int) ≤ 0 := by omega
        clear hx k0
        go_wp2_with fail
        go_round
        case rel => exact ⟨k + 1, by omega, by go_num, HN.out⟩
        case measure => simp [intOf]; omega
      · obtain ⟨j, hj⟩ : ∃ j, k = j + 1 := ⟨k - 1, by omega⟩
        have em : (k : Int) - 1 = (j : Int) := by omega
        have hjn : j < n := by omega
        obtain ⟨ad', y, eA, hbk', hy, hcy⟩ := h.icell (j := j) (by omega)
        injection eA with eA
        subst eA
        have hp : prevOf ls k = y := by unfold prevOf; rw [if_neg (by omega), hj, Nat.add_sub_cancel, getD_of hy]
        have q0 : (0 : Int) < (k : Int) := by omega
        clear hj k0
        by_cases hxy : x ≤ y
        · have B := hide (eTo_bad HOK.out (thStep_3 hx (by omega) (by rw [hp]; exact hxy)) (by decide) n hlt)
          clear hx hy hp
          go_wp2_with fail
          go_ret
          exact ⟨by rw [HE.out, B.out]; rfl, rfl⟩
        · have HN := hide (eTo_next HOK.out (thStep_0 hx (by omega) (by rw [hp]; exact hxy)))
          clear hx hy hp
          go_wp2_with fail
          go_round
          case rel => exact ⟨k + 1, by omega, by go_num, HN.out⟩
          case measure => simp [intOf]; omega
    · obtain rfl : k = n := by omega
      go_wp2_with fail
      go_ret
      exact ⟨by rw [HE.out, HOK.out]; rfl, rfl⟩
set_option maxRecDepth 20000 in
set_option maxHeartbeats 1600000 in
theorem things_any (h : Si w A n c ls) (hm12 : m ≤ 12) :
    Calls Try.prog 80 #[.slice A n c, .int .i64 m] w fun e w' => e = .returned (.int .i64 (thErr n m ls)) ∧ w = w' := by
  have hm := h.len_max
  by_cases g1 : m < n
  · have E := hide (show thErr n m ls = 2 from if_pos g1)
    go_enter Try.func80, Try.ntmps80
    go_wp2_with fail
    go_ret
    exact ⟨by rw [E.out]; rfl, rfl⟩
  have HE := hide (show thErr n m ls = eTo (thStep m ls) n from if_neg g1)
  go_enter Try.func80, Try.ntmps80
  go_wp2_with fail
  go_loop [5, 14] (fun o i => ∃ k : Nat, k ≤ n ∧ i = .int .i64 k ∧ o = .int .i64 (prevOf ls k) ∧ eTo (thStep m ls) k = 0) (fun _ i => n - (intOf i).toNat)
  case atStart => exact ⟨0, Nat.zero_le _, rfl, rfl, rfl⟩
  case round =>
    obtain ⟨k, hk, rfl, rfl, hok⟩ := hrel
    have HOK := hide hok
    clear hok
    by_cases hlt : k < n
    · obtain ⟨ad, x, rfl, hbk, hx, hc⟩ := h.icell hlt
      have HP := hide (show prevOf ls (k + 1) = x by unfold prevOf; rw [if_neg (by omega), Nat.add_sub_cancel, getD_of hx])
      by_cases x0 : 0 ≤ x ∧ x ≤ (m : Int) - 1
      · have t1 := inR_yes x0
        by_cases hxy : x ≤ prevOf ls k
        · have B := hide (eTo_bad HOK.out (thStep_3 hx (by omega) hxy) (by decide) n hlt)
          clear hx x0
          obtain ⟨p, hp⟩ : ∃ p, prevOf ls k = p := ⟨_, rfl⟩
          rw [hp] at hxy ⊢
          clear hp
          go_wp2_with (first | (go_at_call 70; refine (within_any _ _ _ _).mono ?_; rintro e w' ⟨rfl, rfl⟩))
          go_ret
          exact ⟨by rw [HE.out, B.out]; rfl, rfl⟩
        · have HN := hide (eTo_next HOK.out (thStep_0 hx (by omega) hxy))
          clear hx x0
          obtain ⟨p, hp⟩ : ∃ p, prevOf ls k = p := ⟨_, rfl⟩
          rw [hp] at hxy ⊢
          clear hp
          go_wp2_with (first | (go_at_call 70; refine (within_any _ _ _ _).mono ?_; rintro e w' ⟨rfl, rfl⟩))
          go_round
          case rel => exact ⟨k + 1, by omega, by go_num, by rw [HP.out], HN.out⟩
          case measure => simp [intOf]; omega
      · have t1 := inR_no x0
        have B := hide (eTo_bad HOK.out (thStep_1 hx (by omega)) (by decide) n hlt)
        clear hx x0
        go_wp2_with (first | (go_at_call 70; refine (within_any _ _ _ _).mono ?_; rintro e w' ⟨rfl, rfl⟩))
        go_ret
        exact ⟨by rw [HE.out, B.out]; rfl, rfl⟩
    · obtain rfl : k = n := by omega
      go_wp2_with fail
      go_ret
      exact ⟨by rw [HE.out, HOK.out]; rfl, rfl⟩
end
/-- Who comes first in an order, as far as has been looked. -/
def bestTo (os ls : List Int) : Nat → Int
  | 0 => -1
  | k + 1 => if bestTo os ls k < 0 ∨ os.getD (ls.getD k 0).toNat 0 < os.getD (bestTo os ls k).toNat 0 then ls.getD k 0 else bestTo os ls k
theorem bestTo_next {os ls : List Int} {k : Nat} {x : Int} (hx : ls[k]? = some x) : bestTo os ls (k + 1) = if bestTo os ls k < 0 ∨ os.getD x.toNat 0 < os.getD (bestTo os ls k).toNat 0 then x else bestTo os ls k := by
  rw [bestTo, getD_of hx]
theorem bestTo_in {os ls : List Int} {n m : Nat} (hl : ls.length = n) (h : eTo (thStep m ls) n = 0) : ∀ k, k ≤ n → (k = 0 ∧ bestTo os ls k = -1) ∨ (0 ≤ bestTo os ls k ∧ bestTo os ls k < (m : Int))
  | 0, _ => .inl ⟨rfl, rfl⟩
  | k + 1, hk => by
    right
    have ih := bestTo_in (os := os) hl h k (by omega)
    have hx := getD_at (l := ls) (k := k) (by omega)
    have hb := th_in h (show k < n by omega) hx
    rw [bestTo_next hx]
    split
    · exact hb
    · rename_i h2
      rcases ih with ⟨_, h3⟩ | h3
      · exact absurd (.inl (by omega)) h2
      · exact h3
/-- Whoever was found is one of them and comes ahead of all others. -/
theorem bestTo_is {os ls : List Int} {n m : Nat} (hl : ls.length = n) (h : eTo (thStep m ls) n = 0) : ∀ k, k ≤ n → 0 < k → (∃ j, j < k ∧ ls[j]? = some (bestTo os ls k)) ∧ ∀ i x, i < k → ls[i]? = some x → os.getD (bestTo os ls k).toNat 0 ≤ os.getD x.toNat 0
  | 0, _, h0 => by omega
  | k + 1, hk, _ => by
    have hx := getD_at (l := ls) (k := k) (by omega)
    have hin := bestTo_in (os := os) hl h k (by omega)
    obtain ⟨x, hxe⟩ : ∃ x, ls.getD k 0 = x := ⟨_, rfl⟩
    rw [hxe] at hx
    rw [bestTo_next hx]
    by_cases hc : bestTo os ls k < 0 ∨ os.getD x.toNat 0 < os.getD (bestTo os ls k).toNat 0
    · rw [if_pos hc]
      refine ⟨⟨k, Nat.lt_succ_self _, hx⟩, fun i y hi hy => ?_⟩
      by_cases e : i = k
      · subst e; rw [hx] at hy; injection hy with hy; subst hy; exact Int.le_refl _
      · have hk0 : 0 < k := by omega
        obtain ⟨_, h2⟩ := bestTo_is (os := os) hl h k (by omega) hk0
        have h3 := h2 i y (by omega) hy
        rcases hin with ⟨h4, _⟩ | h4 <;> rcases hc with hc | hc <;> omega
    · rw [if_neg hc]
      have hk0 : 0 < k := by
        rcases hin with ⟨h4, h5⟩ | h4
        · exact absurd (.inl (by omega)) hc
        · rcases Nat.eq_zero_or_pos k with e | e
          · subst e; simp [bestTo] at h4
          · exact e
      obtain ⟨⟨j, h1, h2⟩, h3⟩ := bestTo_is (os := os) hl h k (by omega) hk0
      refine ⟨⟨j, by omega, h2⟩, fun i y hi hy => ?_⟩
      by_cases e : i = k
      · subst e; rw [hx] at hy; injection hy with hy; subst hy; omega
      · exact h3 i y (by omega) hy
def fErr (m n : Nat) (os ls : List Int) : Int := if digErr m os ≠ 0 then digErr m os else if thErr n m ls ≠ 0 then thErr n m ls else if n = 0 then 4 else 0
def fVal (m n : Nat) (os ls : List Int) : Int := if fErr m n os ls = 0 then bestTo os ls n else 0
theorem fErr_1 {m n : Nat} {os ls : List Int} (h : digErr m os ≠ 0) : fErr m n os ls = digErr m os := if_pos h
theorem fErr_2 {m n : Nat} {os ls : List Int} (h : digErr m os = 0) (h2 : thErr n m ls ≠ 0) : fErr m n os ls = thErr n m ls := by unfold fErr; rw [if_neg (by simpa using h), if_pos h2]
theorem fErr_4 {m n : Nat} {os ls : List Int} (h : digErr m os = 0) (h2 : thErr n m ls = 0) (h3 : n = 0) : fErr m n os ls = 4 := by unfold fErr; rw [if_neg (by simpa using h), if_neg (by simpa using h2), if_pos h3]
theorem fErr_0 {m n : Nat} {os ls : List Int} (h : digErr m os = 0) (h2 : thErr n m ls = 0) (h3 : n ≠ 0) : fErr m n os ls = 0 := by unfold fErr; rw [if_neg (by simpa using h), if_neg (by simpa using h2), if_neg h3]
end Go.Proofs.Ytgejpinepkockab
