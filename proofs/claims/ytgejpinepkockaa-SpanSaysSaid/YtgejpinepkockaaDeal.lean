/-
  digit.Deal and what the reference says of it: the walks. Conditions: the slices read as lists of numbers.
-/
import Derived.Test.YtgejpinepkockaaEq
import Derived.Test.YtgejpinepkockaaClone
import Derived.Test.YtgejpinepkockaaWithin
import Derived.RegionTactic
import Derived.BigRegion
namespace Go.Proofs.Ytgejpinepkockaa
open Go.RowKit

/-- Which of the draws is the first that may not be: none, or its place. -/
def drawsOk (ds : List Int) : Nat → Bool
  | 0 => true
  | k + 1 => drawsOk ds k && inR (ds.getD k 0) 0 k
theorem drawsOk_bad {ds : List Int} {k : Nat} {d : Int} (hd : ds[k]? = some d) (hr : inR d 0 k = false) : ∀ m, k < m → drawsOk ds m = false
  | 0, h => by omega
  | m + 1, h => by
    by_cases e : k = m
    · subst e
      simp [drawsOk, List.getD, hd, hr]
    · simp [drawsOk, drawsOk_bad hd hr m (by omega)]
def drawsErr (n m : Nat) (ds : List Int) : Int := if 12 < n then 2 else if n ≠ m then 7 else if drawsOk ds m then 0 else 1

set_option maxHeartbeats 400000 in
theorem draws_any (A1 A2 : Option Addr) (n1 c1 n2 c2 : Nat) (xs ds : List Int) (w : World) (h1 : Si w A1 n1 c1 xs) (h2 : Si w A2 n2 c2 ds) :
    Calls Try.prog 17 #[.slice A1 n1 c1, .slice A2 n2 c2] w fun e w' => e = .returned (.int .i64 (drawsErr n1 n2 ds)) ∧ w = w' := by
  have hm1 := h1.len_max
  have hm2 := h2.len_max
  by_cases hl : 12 < n1
  · have e : drawsErr n1 n2 ds = 2 := by simp [drawsErr, hl]
    have E := hide e; clear e
    go_enter Try.func17, Try.ntmps17
    go_wp2
    go_ret
    exact ⟨by rw [E.out]; rfl, rfl⟩
  by_cases hn : n1 = n2
  · subst hn
    go_enter Try.func17, Try.ntmps17
    go_wp2
    go_loop [17] (fun i => ∃ k : Nat, k ≤ n1 ∧ i = .int .i64 k ∧ drawsOk ds k = true) (fun i => n1 - (intOf i).toNat)
    case atStart => exact ⟨0, Nat.zero_le _, rfl, rfl⟩
    case round =>
      obtain ⟨k, hk, rfl, hok⟩ := hrel
      have HOK := hide hok
      clear hok
      by_cases hlt : k < n1
      · obtain ⟨ad, d, rfl, hb, hd, hc⟩ := h2.icell hlt
        have HD := hide hd
        clear hd
        by_cases hd : 0 ≤ d ∧ d ≤ k
        · have t1 : inR d 0 k = true := inR_yes hd
          go_wp2_with (go_at_call 82; refine (within_any _ _ _ _).mono ?_; rintro e w' ⟨rfl, rfl⟩)
          go_round
          case rel => exact ⟨k + 1, by omega, by go_num, by simp [drawsOk, HOK.out, HD.out, t1]⟩
          case measure => simp [intOf]; omega
        · have t1 : inR d 0 k = false := inR_no hd
          go_wp2_with (go_at_call 82; refine (within_any _ _ _ _).mono ?_; rintro e w' ⟨rfl, rfl⟩)
          go_ret
          exact ⟨by simp [drawsErr, hl, drawsOk_bad HD.out t1 n1 hlt], rfl⟩
      · go_wp2
        go_ret
        obtain rfl : k = n1 := by omega
        exact ⟨by simp [drawsErr, hl, HOK.out], rfl⟩
  · have e : drawsErr n1 n2 ds = 7 := by simp [drawsErr, hl, hn]
    have E := hide e; clear e
    go_enter Try.func17, Try.ntmps17
    go_wp2
    go_ret
    exact ⟨by rw [E.out]; rfl, rfl⟩

/-- One exchange. -/
def swapAt (l : List Int) (k d : Nat) : List Int := (l.set k (l.getD d 0)).set d (l.getD k 0)
/-- The exchanges of the first k draws. -/
def dealt (xs ds : List Int) : Nat → List Int
  | 0 => xs
  | k + 1 => swapAt (dealt xs ds k) k (ds.getD k 0).toNat

theorem swapAt_len (l : List Int) (k d : Nat) : (swapAt l k d).length = l.length := by simp [swapAt]
theorem dealt_len (xs ds : List Int) : ∀ k, (dealt xs ds k).length = xs.length
  | 0 => rfl
  | k + 1 => by rw [dealt, swapAt_len, dealt_len xs ds k]
theorem ints_swap {l : List Int} {k d : Nat} {x y : Int} (hx : l[k]? = some x) (hy : l[d]? = some y) : ((ints l).set k (.int .i64 y)).set d (.int .i64 x) = ints (swapAt l k d) := by
  simp [ints, swapAt, List.getD, hx, hy, List.map_set]
theorem dealt_next {xs ds : List Int} {k d : Nat} {x y : Int} (hd : ds[k]? = some (d : Int)) (hx : (dealt xs ds k)[k]? = some x) (hy : (dealt xs ds k)[d]? = some y) :
    ints (dealt xs ds (k + 1)) = ((ints (dealt xs ds k)).set k (.int .i64 y)).set d (.int .i64 x) := by
  rw [ints_swap hx hy]; simp [dealt, List.getD, hd]
theorem drawsOk_next {ds : List Int} {k : Nat} {d : Int} (h : drawsOk ds k = true) (hd : ds[k]? = some d) (hr : inR d 0 k = true) : drawsOk ds (k + 1) = true := by simp [drawsOk, List.getD, h, hd, hr]
/-- What digit.Deal leaves: the error, and the row. -/
def DealRet (w : World) (n m : Nat) (xs ds : List Int) (v : Value) (w' : World) : Prop :=
  ∃ A c, v = .tuple #[.slice A (if drawsErr n m ds = 0 then n else 0) c, .int .i64 (drawsErr n m ds)] ∧ Own w' w.heap.size 3 1 A (if drawsErr n m ds = 0 then n else 0) c (ints (if drawsErr n m ds = 0 then dealt xs ds n else []))

set_option maxHeartbeats 400000 in
theorem deal_any (A1 A2 : Option Addr) (n1 c1 n2 c2 : Nat) (xs ds : List Int) (w : World) (h1 : Si w A1 n1 c1 xs) (h2 : Si w A2 n2 c2 ds) :
    Calls Try.prog 15 #[.slice A1 n1 c1, .slice A2 n2 c2] w (Ret w (DealRet w n1 n2 xs ds)) := by
  have hm1 := h1.len_max
  have hm2 := h2.len_max
  by_cases hl : 12 < n1
  · have E := hide (show drawsErr n1 n2 ds = 2 by simp [drawsErr, hl])
    go_enter Try.func15, Try.ntmps15
    go_wp2
    go_ret2
    refine ⟨_, rfl, Below.refl _ _, none, 0, ?_⟩
    rw [E.out]
    exact ⟨rfl, Own.nil _ _ _ _⟩
  by_cases hn : n1 = n2
  · subst hn
    go_enter Try.func15, Try.ntmps15
    go_wp2_with (go_at_call 81; refine (clone_ints A1 n1 c1 xs _ h1 (by omega)).mono ?_; rintro e w1 ⟨v, rfl, hb1, A, c, rfl, hown⟩)
    go_loopw [21] (fun i wr => ∃ k : Nat, k ≤ n1 ∧ i = .int .i64 k ∧ drawsOk ds k = true ∧ Own wr w.heap.size 3 1 A n1 c (ints (dealt xs ds k)) ∧ Below w.heap.size w wr) (fun i _ => n1 - (intOf i).toNat)
    case atStart => exact ⟨0, Nat.zero_le _, rfl, rfl, hown, hb1⟩
    case round =>
      obtain ⟨k, hk, rfl, hok, hown, hb⟩ := hrel
      have HOK := hide hok
      clear hok hb1
      by_cases hlt : k < n1
      · obtain ⟨ad, d, rfl, hbd, hd, hc⟩ := (h2.below hb).icell hlt
        have HD := hide hd
        clear hd
        by_cases hd : 0 ≤ d ∧ d ≤ k
        · have t1 : inR d 0 k = true := inR_yes hd
          obtain ⟨hd1, hd2⟩ := hd
          obtain ⟨dn, rfl⟩ := Int.eq_ofNat_of_zero_le hd1
          obtain ⟨g, rfl, hg1, hg2⟩ := hown.addr (by omega)
          have hlen : (dealt xs ds k).length = n1 := by rw [dealt_len, h1.ilen]
          obtain ⟨x, hx⟩ : ∃ x, (dealt xs ds k)[k]? = some x := ⟨_, List.getElem?_eq_getElem (by omega)⟩
          obtain ⟨y, hy⟩ : ∃ y, (dealt xs ds k)[dn]? = some y := ⟨_, List.getElem?_eq_getElem (by omega)⟩
          have cx := hown.cell (ints_at hx)
          have cy := hown.cell (ints_at hy)
          have fx := hown.free k
          have fy := hown.free dn
          have HX := hide hx
          have HY := hide hy
          clear hx hy
          obtain ⟨v1, e1⟩ := cell?_setCell_some (w := wr) (p := ⟨g, k, none⟩) (x := .int .i64 y) (q := ⟨g, dn, none⟩) (v := .int .i64 y) (by go_simp)
          obtain ⟨v2, e2⟩ := cell?_setCell_some (w := wr) (p := ⟨g, dn, none⟩) (x := .int .i64 x) (q := ⟨g, k, none⟩) (v := .int .i64 x) (by go_simp)
          go_wp2
          have hdn : dn < n1 := by omega
          go_region
          all_goals go_wp2
          go_roundw
          case rel =>
            refine ⟨k + 1, by omega, by go_num, drawsOk_next HOK.out HD.out t1, ?_, ((hb.setCell hg1 _).setCell hg1 _).drew⟩
            rw [dealt_next HD.out HX.out HY.out]
            exact ((hown.set k _).set dn _).drew
          case measure => simp [intOf]; omega
        · have t1 : inR d 0 k = false := inR_no hd
          have E : drawsErr n1 n1 ds = 1 := by simp [drawsErr, hl, drawsOk_bad HD.out t1 n1 hlt]
          have E' := hide E
          clear E t1
          by_cases hd1 : d < 0
          · go_wp2
            go_ret2
            refine ⟨_, rfl, hb, none, 0, ?_⟩
            rw [E'.out]
            exact ⟨rfl, Own.nil _ _ _ _⟩
          · go_wp2
            go_ret2
            refine ⟨_, rfl, hb, none, 0, ?_⟩
            rw [E'.out]
            exact ⟨rfl, Own.nil _ _ _ _⟩
      · go_wp2
        go_ret2
        obtain rfl : k = n1 := by omega
        have E : drawsErr k k ds = 0 := by simp [drawsErr, hl, HOK.out]
        refine ⟨_, rfl, hb, A, c, ?_⟩
        rw [E]
        exact ⟨rfl, hown⟩
  · have E := hide (show drawsErr n1 n2 ds = 7 by simp [drawsErr, hl, hn])
    go_enter Try.func15, Try.ntmps15
    go_wp2
    go_ret2
    refine ⟨_, rfl, Below.refl _ _, none, 0, ?_⟩
    rw [E.out]
    exact ⟨rfl, Own.nil _ _ _ _⟩
end Go.Proofs.Ytgejpinepkockaa
