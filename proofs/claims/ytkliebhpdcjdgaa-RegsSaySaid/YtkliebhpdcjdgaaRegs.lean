/-
  regs.Check, culref.Regs, culref.Noughts: the walks. Conditions: the slices read as lists of numbers.
-/
import Derived.Test.YtkliebhpdcjdgaaIdx
import Derived.Test.YtkliebhpdcjdgaaFunc
import Derived.Test.YtkliebhpdcjdgaaClone
import Derived.Test.YtkliebhpdcjdgaaOwn2
import Derived.Lib.BitFns
namespace Go.Proofs.Ytkliebhpdcjdgaa
open Go.RowKit

def rLen (n : Nat) : Prop := n = 1 ∨ n = 2 ∨ n = 4 ∨ n = 8 ∨ n = 16
instance (n : Nat) : Decidable (rLen n) := by unfold rLen; infer_instance
def rBad (x : Int) : Bool := !inR x 0 57
def rErr (n : Nat) (xs : List Int) : Int := if ¬ rLen n then 7 else if noneTo rBad xs n = false then 1 else 0
theorem rErr_7 {n : Nat} {xs : List Int} (h : ¬ rLen n) : rErr n xs = 7 := if_pos h
theorem rErr_1 {n : Nat} {xs : List Int} (h : rLen n) (h2 : noneTo rBad xs n = false) : rErr n xs = 1 := by unfold rErr; rw [if_neg (by simpa using h), if_pos h2]
theorem rErr_0 {n : Nat} {xs : List Int} (h : rLen n) (h2 : noneTo rBad xs n = true) : rErr n xs = 0 := by unfold rErr; rw [if_neg (by simpa using h), if_neg (by rw [h2]; simp)]
theorem rErr_zero {n : Nat} {xs : List Int} (hl : xs.length = n) (h : rErr n xs = 0) : rLen n ∧ ∀ x ∈ xs, 0 ≤ x ∧ x ≤ 57 := by
  unfold rErr at h
  by_cases h1 : rLen n
  · rw [if_neg (by simpa using h1)] at h
    cases h2 : noneTo rBad xs n
    · rw [h2] at h; simp at h
    · refine ⟨h1, fun x hx => ?_⟩
      obtain ⟨k, hk⟩ := List.getElem?_of_mem hx
      have hkn := (List.getElem?_eq_some_iff.1 hk).1
      have h3 := okTo_at n h2 (show k < n by omega)
      rw [getD_of hk] at h3
      simpa [rBad, inR] using h3
  · rw [if_pos h1] at h; omega
theorem rBad_answers : Answers 56 rBad where
  enters := enters_of Try.func56 (by kernel_rfl) rfl
  does := by
    intro x W
    by_cases h1 : x < 0
    · have B := hide (show rBad x = true by unfold rBad; rw [inR_no (by omega)]; rfl)
      go_enter Try.func56, Try.ntmps56
      go_wp2_with fail
      go_ret
      exact ⟨by rw [B.out]; rfl, rfl⟩
    by_cases h2 : 57 < x
    · have B := hide (show rBad x = true by unfold rBad; rw [inR_no (by omega)]; rfl)
      go_enter Try.func56, Try.ntmps56
      go_wp2_with fail
      go_ret
      exact ⟨by rw [B.out]; first | rfl | simp, rfl⟩
    · have B := hide (show rBad x = false by unfold rBad; rw [inR_yes (by omega)]; rfl)
      go_enter Try.func56, Try.ntmps56
      go_wp2_with fail
      go_ret
      exact ⟨by rw [B.out]; first | rfl | (simp; done) | (simp; omega), rfl⟩
theorem rBad_answers2 : Answers 54 rBad where
  enters := enters_of Try.func54 (by kernel_rfl) rfl
  does := by
    intro x W
    go_enter Try.func54, Try.ntmps54
    go_wp2_with fail
    refine (within_any _ _ _ _).mono ?_
    rintro e w' ⟨rfl, rfl⟩
    go_wp2_with fail
    go_ret
    exact ⟨rfl, rfl⟩
section
variable {A : Option Addr} {n c : Nat} {xs : List Int} {w : World}
set_option maxRecDepth 20000 in
set_option maxHeartbeats 1600000 in
theorem regsCheck_any (h : Si w A n c xs) :
    Calls Try.prog 12 #[.slice A n c] w fun e w' => e = .returned (.int .i64 (rErr n xs)) ∧ Below w.heap.size w w' := by
  have hm := h.len_max
  by_cases hr : rLen n
  · cases hb : noneTo rBad xs n
    · have HE := hide (rErr_1 hr hb)
      have HC := hide (fun w h => containsFunc_ints _ rBad rBad_answers A n c xs w h (b := true) (by rw [hb]; rfl))
      clear hb
      rcases hr with rfl | rfl | rfl | rfl | rfl
      all_goals
        go_enter Try.func12, Try.ntmps12
        go_wp2_with fail
        refine (HC.out _ h).mono ?_
        rintro e w1 ⟨rfl, hb1⟩
        go_wp2_with fail
        go_ret
        exact ⟨by rw [HE.out]; rfl, hb1⟩
    · have HE := hide (rErr_0 hr hb)
      have HC := hide (fun w h => containsFunc_ints _ rBad rBad_answers A n c xs w h (b := false) (by rw [hb]; rfl))
      clear hb
      rcases hr with rfl | rfl | rfl | rfl | rfl
      all_goals
        go_enter Try.func12, Try.ntmps12
        go_wp2_with fail
        refine (HC.out _ h).mono ?_
        rintro e w1 ⟨rfl, hb1⟩
        go_wp2_with fail
        go_ret
        exact ⟨by rw [HE.out]; rfl, hb1⟩
  · have HE := hide (rErr_7 (xs := xs) hr)
    have t1 : ((n : Int) != 1) = true := by simp; unfold rLen at hr; omega
    have t2 : ((n : Int) != 2) = true := by simp; unfold rLen at hr; omega
    have t3 : ((n : Int) != 4) = true := by simp; unfold rLen at hr; omega
    have t4 : ((n : Int) != 8) = true := by simp; unfold rLen at hr; omega
    have t5 : ((n : Int) != 16) = true := by simp; unfold rLen at hr; omega
    clear hr
    go_enter Try.func12, Try.ntmps12
    go_wp2_with fail
    go_ret
    exact ⟨by rw [HE.out]; rfl, by repeat' (first | assumption | with_reducible exact Below.refl _ _ | with_reducible apply Below.drew | with_reducible apply below_drewN | with_reducible apply below_alloc | with_reducible refine below_set ?_ ?_ _ | (simp only [World.size_alloc, World.heap_drewN]; omega) | (simp; omega))⟩
theorem rLen_list {n : Nat} : rLen n ↔ (n : Int) ∈ [1, 2, 4, 8, 16] := by
  unfold rLen; simp; omega
set_option maxRecDepth 20000 in
set_option maxHeartbeats 1600000 in
theorem rregs_one {g : Nat} {t : TypeId} (hg : Blk w g t #[.slice A n c]) (h : Si w A n c xs) :
    Calls Try.prog 11 #[.slice (some ⟨g, 0, none⟩) 1 1] w fun e w' => e = .returned (.int .i64 (rErr n xs)) ∧ Below w.heap.size w w' := by
  have hm := h.len_max
  have q0 := hg.at_ (i := 0) rfl
  have hgl := hg.lt
  go_enter Try.func11, Try.ntmps11
  go_wp2_with fail
  go_loopw [7] (fun i wr => (i = .int .i64 0 ∧ wr = w) ∨ (i = .int .i64 1 ∧ rErr n xs = 0 ∧ Below w.heap.size w wr)) (fun i _ => 1 - (intOf i).toNat)
  case atStart => exact .inl ⟨rfl, rfl⟩
  case round =>
    rcases hrel with ⟨rfl, rfl⟩ | ⟨rfl, he, hb⟩
    · have hb0 : Below wr.heap.size wr (wr.alloc (.cells (ints [1, 2, 4, 8, 16]).toArray 3)) := (Below.refl _ _).alloc (Nat.le_refl _) _
      have HK := hide (fun b hb => contains_ints (Sl.blk (w := wr.alloc (.cells (ints [1, 2, 4, 8, 16]).toArray 3)) (g := wr.heap.size) (cs := ints [1, 2, 4, 8, 16]) (e := 3) 1 5 (at_new _ _) rfl (by simp [maxLen])) (n : Int) b hb)
      by_cases hr : rLen n
      · have HKK := hide (HK.out true (decide_eq_true (rLen_list.1 hr)).symm)
        cases hb : noneTo rBad xs n
        · have HE := hide (rErr_1 hr hb)
          have HC := hide (fun w h => containsFunc_ints _ rBad rBad_answers2 A n c xs w h (b := true) (by rw [hb]; rfl))
          clear hb hr HK
          go_wp2_with fail
          refine HKK.out.mono ?_
          rintro e w' ⟨rfl, rfl⟩
          go_wp2_with fail
          refine (HC.out _ (h.on hb0)).mono ?_
          rintro e w1 ⟨rfl, hb1⟩
          go_wp2_with fail
          go_ret
          exact ⟨by rw [HE.out]; rfl, below_on hb0 hb1⟩
        · have HE := hide (rErr_0 hr hb)
          have HC := hide (fun w h => containsFunc_ints _ rBad rBad_answers2 A n c xs w h (b := false) (by rw [hb]; rfl))
          clear hb hr HK
          go_wp2_with fail
          refine HKK.out.mono ?_
          rintro e w' ⟨rfl, rfl⟩
          go_wp2_with fail
          refine (HC.out _ (h.on hb0)).mono ?_
          rintro e w1 ⟨rfl, hb1⟩
          have hb2 := below_on hb0 hb1
          go_wp2_with fail
          go_roundw
          case rel => exact .inr ⟨rfl, HE.out, hb2⟩
          case measure => simp [intOf]
      · have HKK := hide (HK.out false (decide_eq_false (fun h2 => hr (rLen_list.2 h2))).symm)
        have HE := hide (rErr_7 (xs := xs) hr)
        clear hr HK
        go_wp2_with fail
        refine HKK.out.mono ?_
        rintro e w' ⟨rfl, rfl⟩
        go_wp2_with fail
        go_ret
        exact ⟨by rw [HE.out]; rfl, hb0⟩
    · have HE := hide he
      clear he
      go_wp2_with fail
      go_ret
      exact ⟨by rw [HE.out]; rfl, hb⟩
end
set_option maxRecDepth 20000 in
set_option maxHeartbeats 1600000 in
theorem noughts_any (v m : Nat) (hv : v ≤ 72057594037927935) (h0 : 0 < m) (hm : m ≤ 1000) (w : World) :
    Calls Try.prog 15 #[.int .i64 v, .int .i64 m] w fun e w' => e = .returned (.int .i64 (57 - (Lib.bitLen (v / m) : Int))) ∧ w = w' := by
  obtain ⟨x, hx⟩ : ∃ x, v / m = x := ⟨_, rfl⟩
  have q1 : (v : Int) / (m : Int) = (x : Int) := by rw [← hx]; rfl
  have hxv : x ≤ v := by rw [← hx]; exact Nat.div_le_self _ _
  have hbl : Lib.bitLen x ≤ 56 := Lib.bitLen_le x 56 (by decide) (by omega)
  rw [hx]
  clear hx
  go_enter Try.func15, Try.ntmps15
  go_wp2_with fail
  go_loop [0, 5] (fun c o => ∃ y : Nat, y ≤ x ∧ c = .int .i64 y ∧ Lib.bitLen y ≤ Lib.bitLen x ∧ o = .int .i64 (57 - ((Lib.bitLen x : Int) - (Lib.bitLen y : Int)))) (fun c _ => (intOf c).toNat)
  case atStart => exact ⟨x, Nat.le_refl _, rfl, Nat.le_refl _, by simp⟩
  case round =>
    obtain ⟨y, hy, rfl, hl, rfl⟩ := hrel
    by_cases hy0 : 0 < y
    · have hh := Lib.bitLen_half y (by omega) (by omega)
      obtain ⟨z, hz⟩ : ∃ z, y / 2 = z := ⟨_, rfl⟩
      have q2 : (y : Int) / 2 = (z : Int) := by rw [← hz]; rfl
      have hzy : z < y := by omega
      rw [hz] at hh
      have HH := hide hh
      clear hz
      obtain ⟨b, hb⟩ : ∃ b, Lib.bitLen y = b := ⟨_, rfl⟩
      obtain ⟨b2, hb2⟩ : ∃ b, Lib.bitLen z = b := ⟨_, rfl⟩
      obtain ⟨b3, hb3⟩ : ∃ b, Lib.bitLen x = b := ⟨_, rfl⟩
      have HB2 := hide hb2
      have HB3 := hide hb3
      rw [hb, hb2] at HH
      rw [hb3] at hl hbl ⊢
      rw [hb] at hl ⊢
      have HHH := HH.out
      rw [hb, hb2] at hh
      clear hb hb2 hb3 HH
      have HX := hide HHH
      have HL2 := hide (show b2 ≤ b3 by omega)
      have HE := hide (show (57 : Int) - ((b3 : Int) - (b : Int)) - 1 = 57 - ((b3 : Int) - (b2 : Int)) by omega)
      clear hh HHH
      go_wp2_with fail
      go_round
      case rel => exact ⟨z, by omega, rfl, by rw [HB2.out]; exact HL2.out, by rw [HB2.out, HE.out]⟩
      case measure => simp [intOf]; omega
    · obtain rfl : y = 0 := by omega
      go_wp2_with fail
      go_ret
      exact ⟨by simp [show Lib.bitLen 0 = 0 from rfl], rfl⟩
end Go.Proofs.Ytkliebhpdcjdgaa
