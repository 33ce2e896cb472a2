/-
  slices.swapRangeCmpFunc, rotateCmpFunc at int: the walks. Conditions: the slice is a row of the call's own.
-/
import Derived.Test.YtkliebhpdcjdgaaSortP2
import Derived.Test.YtkliebhpdcjdgaaClone
import Derived.Test.YtkliebhpdcjdgaaOwn2
import Derived.RegionTactic
import Derived.BigRegion
import Derived.Deep.QuietTactic
import Derived.BigQuiet
namespace Go.Proofs.Ytkliebhpdcjdgaa
open Go.RowKit

/-- A row of the call's own and what lies below it. -/
structure Rw (w0 w : World) (B gb n c : Nat) (xs : List Int) : Prop where
  own : Own w B 3 1 (some ⟨gb, 0, none⟩) n c (ints xs)
  bel : Below B w0 w
theorem Rw.len {w0 w : World} {B gb n c : Nat} {xs : List Int} (h : Rw w0 w B gb n c xs) : xs.length = n := h.own.sl.ilen
theorem Rw.at_ {w0 w : World} {B gb n c : Nat} {xs : List Int} (h : Rw w0 w B gb n c xs) {i : Nat} (hi : i < n) : w.cell? ⟨gb, i, none⟩ = some (.int .i64 (el xs i)) := h.own.cell (ints_at (el_at (by rw [h.len]; exact hi)))
theorem Rw.lo {w0 w : World} {B gb n c : Nat} {xs : List Int} (h : Rw w0 w B gb n c xs) (hn : 0 < n) : B ≤ gb ∧ gb < w.heap.size := by
  obtain ⟨g, e, h1, h2⟩ := h.own.addr hn
  injection e with e
  injection e with e
  subst e
  exact ⟨h1, h2⟩
theorem Rw.swp {w0 w : World} {B gb n c : Nat} {xs : List Int} (h : Rw w0 w B gb n c xs) {i j : Nat} (hn : 0 < n) : Rw w0 ((w.setCell ⟨gb, i, none⟩ (.int .i64 (el xs j))).setCell ⟨gb, j, none⟩ (.int .i64 (el xs i))) B gb n c (swp xs i j) := by
  have hg := (h.lo hn).1
  refine ⟨?_, (h.bel.setCell (p := ⟨gb, i, none⟩) hg _).setCell (p := ⟨gb, j, none⟩) hg _⟩
  have := (h.own.set i (.int .i64 (el xs j))).set j (.int .i64 (el xs i))
  rwa [← ints_set, ← ints_set] at this
theorem Rw.drew {w0 w : World} {B gb n c : Nat} {xs : List Int} (h : Rw w0 w B gb n c xs) : Rw w0 w.drew B gb n c xs := ⟨h.own.drew, below_drewN h.bel 1⟩
theorem Rw.drewN {w0 w : World} {B gb n c : Nat} {xs : List Int} (h : Rw w0 w B gb n c xs) (q : Nat) : Rw w0 (w.drewN q) B gb n c xs := ⟨h.own.drewN q, below_drewN h.bel q⟩
def SwRet (w0 : World) (B gb n c a b k : Nat) (xs : List Int) (e : Ending) (w' : World) : Prop :=
  ∃ ys, e = .returned (.tuple #[]) ∧ Rw w0 w' B gb n c ys ∧ (∀ p, el ys p = el xs (swI a b k p)) ∧ ∀ a' b', a' ≤ a → b + k ≤ b' → b' ≤ n → Mv n a' b' xs ys
section
variable {w0 w : World} {B gb n c a b k m : Nat} {xs : List Int} {f : Value}
set_option maxRecDepth 20000 in
set_option maxHeartbeats 1600000 in
theorem swapRange_any (h : Rw w0 w B gb n c xs) (hab : a + k ≤ b) (hbn : b + k ≤ n) (hn : n ≤ 1000) :
    Calls Try.prog 190 #[.slice (some ⟨gb, 0, none⟩) n c, .int .i64 (a : Int), .int .i64 (b : Int), .int .i64 (k : Int), f] w (SwRet w0 B gb n c a b k xs) := by
  go_enter Try.func190, Try.ntmps190
  go_wp2_with fail
  go_loopw [10] (fun i wr => ∃ (l : Nat) (ys : List Int), l ≤ k ∧ i = .int .i64 l ∧ Rw w0 wr B gb n c ys ∧ (∀ p, el ys p = el xs (swI a b l p)) ∧ ∀ a' b', a' ≤ a → b + k ≤ b' → b' ≤ n → Mv n a' b' xs ys) (fun i _ => k - (intOf i).toNat)
  case atStart => exact ⟨0, xs, Nat.zero_le _, rfl, h, fun p => by rw [sw_zero], fun _ _ _ _ _ => Mv.refl _ _ _ _⟩
  case round =>
    obtain ⟨l, ys, hl, rfl, hr, hy, hmv⟩ := hrel
    have HY := hide hy
    have HMV := hide hmv
    clear hy hmv
    by_cases hlt : l < k
    · have HNX := hide (fun p => sw_step (n := n) HY.out hr.len (k := l) (by omega) (by omega) p)
      have HM2 := hide (fun a' b' (h1 : a' ≤ a) (h2 : b + k ≤ b') (h3 : b' ≤ n) => (HMV.out a' b' h1 h2 h3).trans (Mv.swp (n := n) hr.len (i := a + l) (j := b + l) (by omega) (by omega) h3))
      have HRS := hide (hr.swp (i := a + l) (j := b + l) (by omega))
      obtain ⟨s, hs⟩ : ∃ s, a + l = s := ⟨_, rfl⟩
      obtain ⟨t, ht⟩ : ∃ t, b + l = t := ⟨_, rfl⟩
      rw [hs, ht] at HNX HM2 HRS
      have es : (a : Int) + (l : Int) = (s : Int) := by omega
      have et : (b : Int) + (l : Int) = (t : Int) := by omega
      have sn : s < n := by omega
      have tn : t < n := by omega
      have ews : IntKind.i64.wrap (s : Int) = (s : Int) := by rw [IntKind.wrap_i64]; omega
      have ewt : IntKind.i64.wrap (t : Int) = (t : Int) := by rw [IntKind.wrap_i64]; omega
      have cx := hr.at_ sn
      have cy := hr.at_ tn
      have fx := hr.own.free s
      have fy := hr.own.free t
      obtain ⟨x, hx⟩ : ∃ x, el ys s = x := ⟨_, rfl⟩
      obtain ⟨y, hyy⟩ : ∃ y, el ys t = y := ⟨_, rfl⟩
      rw [hx] at cx HRS
      rw [hyy] at cy HRS
      have hne : s ≠ t := by omega
      clear hs ht hx hyy
      obtain ⟨v1, e1⟩ := cell?_setCell_some (w := wr) (p := ⟨gb, s, none⟩) (x := .int .i64 y) (q := ⟨gb, t, none⟩) (v := .int .i64 y) (by go_simp)
      obtain ⟨v2, e2⟩ := cell?_setCell_some (w := wr) (p := ⟨gb, t, none⟩) (x := .int .i64 x) (q := ⟨gb, s, none⟩) (v := .int .i64 x) (by go_simp)
      go_wp2_with fail
      go_region
      all_goals
        go_wp2_with fail
        go_roundw
        case rel => exact ⟨l + 1, _, by omega, by go_num, by first | exact HRS.out | exact HRS.out.drew, HNX.out, HM2.out⟩
        case measure => simp [intOf]; omega
    · obtain rfl : l = k := by omega
      go_wp2_with fail
      go_end0
      exact ⟨ys, rfl, hr, HY.out, HMV.out⟩
def RotRet (w0 : World) (B gb n c a m b : Nat) (xs : List Int) (e : Ending) (w' : World) : Prop :=
  ∃ ys, e = .returned (.tuple #[]) ∧ Rw w0 w' B gb n c ys ∧ (∀ p, el ys p = el xs (rotI a m b p)) ∧ Mv n a b xs ys
set_option maxRecDepth 20000 in
set_option maxHeartbeats 3200000 in
theorem rotate_any (h : Rw w0 w B gb n c xs) (ham : a < m) (hmb : m < b) (hbn : b ≤ n) (hn : n ≤ 1000) :
    Calls Try.prog 181 #[.slice (some ⟨gb, 0, none⟩) n c, .int .i64 (a : Int), .int .i64 (m : Int), .int .i64 (b : Int), f] w (RotRet w0 B gb n c a m b xs) := by
  obtain ⟨i0, hi0⟩ : ∃ i0, m - a = i0 := ⟨_, rfl⟩
  obtain ⟨j0, hj0⟩ : ∃ j0, b - m = j0 := ⟨_, rfl⟩
  have ei0 : (m : Int) - (a : Int) = (i0 : Int) := by omega
  have ej0 : (b : Int) - (m : Int) = (j0 : Int) := by omega
  have HI0 := hide hi0
  have HJ0 := hide hj0
  clear hi0 hj0
  go_enter Try.func181, Try.ntmps181
  go_wp2_with fail
  go_loopw [10, 11] (fun vi vj wr => ∃ (i j : Nat) (ys : List Int), 0 < i ∧ 0 < j ∧ a + i ≤ m ∧ m + j ≤ b ∧ vi = .int .i64 i ∧ vj = .int .i64 j ∧ Rw w0 wr B gb n c ys ∧ (∀ p, el ys (rotI (m - i) m (m + j) p) = el xs (rotI a m b p)) ∧ Mv n a b xs ys) (fun vi vj _ => (intOf vi).toNat + (intOf vj).toNat)
  case atStart =>
    have h1 := HI0.out
    have h2 := HJ0.out
    exact ⟨i0, j0, xs, by omega, by omega, by omega, by omega, rfl, rfl, h, fun p => by rw [show m - i0 = a by omega, show m + j0 = b by omega], Mv.refl _ _ _ _⟩
  case round =>
    clear ei0 ej0
    obtain ⟨i, j, ys, hi, hj, hai, hjb, rfl, rfl, hr, hy, hmv⟩ := hrel
    have HY := hide hy
    have HMV := hide hmv
    clear hy hmv
    obtain ⟨lo, hlo⟩ : ∃ lo, m - i = lo := ⟨_, rfl⟩
    have elo : (m : Int) - (i : Int) = (lo : Int) := by omega
    have HLO := hide hlo
    rcases Nat.lt_trichotomy i j with hc | hc | hc
    · have t1 : ((i : Int) != (j : Int)) = true := by simp; omega
      obtain ⟨s, hs⟩ : ∃ s, m + j = s := ⟨_, rfl⟩
      obtain ⟨t, ht⟩ : ∃ t, s - i = t := ⟨_, rfl⟩
      obtain ⟨u, hu⟩ : ∃ u, j - i = u := ⟨_, rfl⟩
      have es : (m : Int) + (j : Int) = (s : Int) := by omega
      have et : (s : Int) - (i : Int) = (t : Int) := by omega
      have eu : (j : Int) - (i : Int) = (u : Int) := by omega
      have HS := hide (And.intro hs (And.intro ht hu))
      clear hs ht hu hlo
      go_wp2_with fail
      refine (swapRange_any hr (by have := HS.out; have := HLO.out; omega) (by have := HS.out; omega) hn).mono ?_
      rintro e w1 ⟨zs, rfl, hr1, hz, hm1⟩
      have HZ := hide hz
      have HM1 := hide hm1
      clear hz hm1
      go_wp2_with fail
      go_roundw
      case rel =>
        obtain ⟨h1, h2, h3⟩ := HS.out
        have h4 := HLO.out
        refine ⟨i, u, zs, hi, by omega, hai, by omega, rfl, rfl, hr1, fun p => ?_, HMV.out.trans (HM1.out a b (by omega) (by omega) hbn)⟩
        rw [HZ.out, ← HY.out, ← rot_right (i := i) (j := j) (by omega) hc hi p, ← h3, ← h4, ← h2, ← h1]
      case measure =>
        obtain ⟨h1, h2, h3⟩ := HS.out
        simp [intOf]; omega
    · have t1 : ((i : Int) != (j : Int)) = false := by simp; omega
      have HC := hide hc
      clear hc hlo
      go_wp2_with fail
      refine (swapRange_any hr (by have := HLO.out; omega) (by have := HC.out; omega) hn).mono ?_
      rintro e w1 ⟨zs, rfl, hr1, hz, hm1⟩
      have HZ := hide hz
      have HM1 := hide hm1
      clear hz hm1
      go_wp2_with fail
      go_end0
      have h4 := HLO.out
      have h5 := HC.out
      subst h5
      refine ⟨zs, rfl, hr1, fun p => ?_, HMV.out.trans (HM1.out a b (by omega) (by omega) hbn)⟩
      rw [HZ.out, ← HY.out, ← h4, rot_end (by omega)]
    · have t1 : ((i : Int) != (j : Int)) = true := by simp; omega
      obtain ⟨u, hu⟩ : ∃ u, i - j = u := ⟨_, rfl⟩
      have eu : (i : Int) - (j : Int) = (u : Int) := by omega
      have HU := hide hu
      clear hu hlo
      go_wp2_with fail
      refine (swapRange_any hr (by have := HLO.out; omega) (by omega) hn).mono ?_
      rintro e w1 ⟨zs, rfl, hr1, hz, hm1⟩
      have HZ := hide hz
      have HM1 := hide hm1
      clear hz hm1
      go_wp2_with fail
      go_roundw
      case rel =>
        have h3 := HU.out
        have h4 := HLO.out
        refine ⟨u, j, zs, by omega, hj, by omega, hjb, rfl, rfl, hr1, fun p => ?_, HMV.out.trans (HM1.out a b (by omega) (by omega) hbn)⟩
        rw [HZ.out, ← HY.out, ← rot_left (i := i) (j := j) (by omega) hc hj p, ← h3, ← h4, show m - (i - j) = m - i + j by omega]
      case measure =>
        have h3 := HU.out
        simp [intOf]; omega
end
end Go.Proofs.Ytkliebhpdcjdgaa
