/-
  few.Most and culref.Most: the walks. Condition: the slice reads as a list of numbers.
-/
import Derived.Test.YtfopihlbdceepaaGreatFewJP
namespace Go.Proofs.YtfopihlbdceepaaGreat
open Go.RowKit

theorem cn_le (x : Int) (l : List Int) : cn x l ≤ l.length := List.count_le_length
theorem bm_next {l : List Int} {k : Nat} {x o m : Int} (h : l[k]? = some x) (hs : bm (l.take k) = (o, m)) : bm (l.take (k + 1)) = bmStep (o, m) x := by rw [take_succ_snoc h, bm_snoc, hs]
theorem cn_next {l : List Int} {k : Nat} {x : Int} (y : Int) (h : l[k]? = some x) : cn y (l.take (k + 1)) = cn y (l.take k) + if x = y then 1 else 0 := by rw [take_succ_snoc h, cn_snoc]
theorem find_at {l : List Int} {k : Nat} {x : Int} {p : Int → Bool} (h : l[k]? = some x) (hn : ∀ j y, j < k → l[j]? = some y → p y = false) (hp : p x = true) : l.find? p = some x := by
  have hk := (List.getElem?_eq_some_iff.1 h).1
  have e : l = l.take k ++ x :: l.drop (k + 1) := by
    have h2 := (List.take_append_drop k l).symm
    rw [List.drop_eq_getElem_cons hk] at h2
    rw [(List.getElem?_eq_some_iff.1 h).2] at h2
    exact h2
  rw [e, List.find?_append, List.find?_eq_none.2, List.find?_cons, hp]
  · rfl
  · intro y hy
    obtain ⟨j, hj⟩ := List.getElem?_of_mem hy
    rw [List.getElem?_take] at hj
    split at hj
    · rw [hn j y (by assumption) hj]; decide
    · cases hj
section
variable {A : Option Addr} {n c : Nat} {l : List Int} {w : World}
theorem most_big (hn : 40 < n) : Calls Tryz.prog 5 #[.slice A n c] w fun e w' => e = .returned (.tuple #[.int .i64 0, .bool false, .int .i64 2]) ∧ Below w.heap.size w w' := by
  have t1 : (40 : Int) < (n : Int) := by omega
  go_enter Tryz.func5, Tryz.ntmps5
  go_wp2_with fail
  go_ret3
  exact ⟨rfl, by repeat' (first | assumption | with_reducible exact Below.refl _ _ | with_reducible apply Below.drew | with_reducible apply below_drewN | with_reducible apply below_alloc | with_reducible refine below_set ?_ ?_ _ | (simp only [World.size_alloc, World.heap_drewN]; omega) | (simp; omega))⟩
set_option maxHeartbeats 3200000 in
theorem most_any (h : Si w A n c l) (hn : n ≤ 40) : Calls Tryz.prog 5 #[.slice A n c] w fun e w' => e = .returned (.tuple #[.int .i64 (mostA l).1, .bool (mostA l).2, .int .i64 0]) ∧ Below w.heap.size w w' := by
  have HL := hide h.ilen
  have hm := h.len_max
  have t0 : ¬ (40 : Int) < (n : Int) := by omega
  go_enter Tryz.func5, Tryz.ntmps5
  go_wp2_with fail
  go_loopw [5, 6, 17] (fun vo vm i wr => ∃ k : Nat, k ≤ n ∧ i = .int .i64 k ∧ vo = .int .i64 (bm (l.take k)).1 ∧ vm = .int .i64 (bm (l.take k)).2 ∧ ∃ q, wr = w.drewN q) (fun _ _ i _ => n - (intOf i).toNat)
  case atStart => exact ⟨0, Nat.zero_le _, rfl, rfl, rfl, 0, rfl⟩
  case round =>
    obtain ⟨k, hk, rfl, rfl, rfl, q, rfl⟩ := hrel
    have hbm := bm_take l k (by rw [HL.out]; exact hk)
    obtain ⟨o, m, hs⟩ : ∃ o m, bm (l.take k) = (o, m) := ⟨_, _, rfl⟩
    have hm0 : 0 ≤ m := by have := hbm.1; rwa [hs] at this
    have hm1 : m ≤ (k : Int) := by have := hbm.2.1; rw [hs, List.length_take, HL.out] at this; dsimp only at this; omega
    have HS := hide hs
    rw [hs]
    dsimp only
    clear hbm hs
    by_cases hlt : k < n
    · obtain ⟨ad, x, rfl, hb, hx, hc⟩ := h.icell hlt
      have HX := hide hx
      clear hx
      by_cases c0 : m = 0
      · have HN := hide (show bm (l.take (k + 1)) = (x, 1) by rw [bm_next HX.out HS.out, bmStep, if_pos c0])
        have t1 : (m == 0) = true := by simpa using c0
        clear c0
        go_wp2_with fail
        go_roundw
        case rel => exact ⟨k + 1, by omega, by go_num, by rw [HN.out], by rw [HN.out], _, rfl⟩
        case measure => simp [intOf]; omega
      · have t1 : (m == 0) = false := by simpa using c0
        by_cases c1 : x = o
        · have HN := hide (show bm (l.take (k + 1)) = (o, m + 1) by rw [bm_next HX.out HS.out, bmStep, if_neg c0, if_pos c1])
          have t2 : (x == o) = true := by simpa using c1
          have ez : IntKind.i64.wrap (m + 1) = m + 1 := IntWalk.i64_in _ (by omega)
          clear c0 c1
          go_wp2_with fail
          go_roundw
          case rel => exact ⟨k + 1, by omega, by go_num, by rw [HN.out], by rw [HN.out], _, rfl⟩
          case measure => simp [intOf]; omega
        · have HN := hide (show bm (l.take (k + 1)) = (o, m - 1) by rw [bm_next HX.out HS.out, bmStep, if_neg c0, if_neg c1])
          have t2 : (x == o) = false := by simpa using c1
          have ez : IntKind.i64.wrap (m - 1) = m - 1 := IntWalk.i64_in _ (by omega)
          clear c0 c1
          go_wp2_with fail
          go_roundw
          case rel => exact ⟨k + 1, by omega, by go_num, by rw [HN.out], by rw [HN.out], _, rfl⟩
          case measure => simp [intOf]; omega
    · obtain rfl : k = n := by omega
      have HS2 := hide (show bm l = (o, m) by have := HS.out; rwa [← HL.out, List.take_length] at this)
      go_wp2_with fail
      go_loopw [9, 36] (fun vc i wr => ∃ j : Nat, j ≤ k ∧ i = .int .i64 j ∧ vc = .int .i64 (cn o (l.take j) : Nat) ∧ ∃ q, wr = w.drewN q) (fun _ i _ => k - (intOf i).toNat)
      case atStart => exact ⟨0, Nat.zero_le _, rfl, rfl, _, rfl⟩
      case round =>
        obtain ⟨j, hj, rfl, rfl, q2, rfl⟩ := hrel
        have hcl : cn o (l.take j) ≤ j := by have := cn_le o (l.take j); rw [List.length_take] at this; omega
        obtain ⟨u, hu⟩ : ∃ u, cn o (l.take j) = u := ⟨_, rfl⟩
        have HU := hide hu
        rw [hu] at hcl ⊢
        clear hu
        by_cases hjn : j < k
        · obtain ⟨ad, x, rfl, hb, hx, hc⟩ := h.icell hjn
          have HX := hide hx
          clear hx
          by_cases c1 : x = o
          · have HN := hide (show cn o (l.take (j + 1)) = u + 1 by rw [cn_next o HX.out, HU.out, if_pos c1])
            have t2 : (x == o) = true := by simpa using c1
            clear c1
            go_wp2_with fail
            go_roundw
            case rel => exact ⟨j + 1, by omega, by go_num, by rw [HN.out]; go_num, _, rfl⟩
            case measure => simp [intOf]; omega
          · have HN := hide (show cn o (l.take (j + 1)) = u by rw [cn_next o HX.out, HU.out, if_neg c1]; rfl)
            have t2 : (x == o) = false := by simpa using c1
            clear c1
            go_wp2_with fail
            go_roundw
            case rel => exact ⟨j + 1, by omega, by go_num, by rw [HN.out], _, rfl⟩
            case measure => simp [intOf]; omega
        · obtain rfl : j = k := by omega
          have HU2 := hide (show cn o l = u by have := HU.out; rwa [← HL.out, List.take_length] at this)
          have ez : IntKind.i64.wrap (2 * (u : Int)) = 2 * (u : Int) := IntWalk.i64_in _ (by omega)
          by_cases hg : j < 2 * u
          · have t3 : (j : Int) < 2 * (u : Int) := by omega
            have HM := hide (show mostA l = (o, true) by unfold mostA; rw [HS2.out]; dsimp only; rw [HU2.out, HL.out, if_pos hg])
            go_wp2_with fail
            go_ret3
            exact ⟨by rw [HM.out]; rfl, by repeat' (first | assumption | with_reducible exact Below.refl _ _ | with_reducible apply Below.drew | with_reducible apply below_drewN | with_reducible apply below_alloc | with_reducible refine below_set ?_ ?_ _ | (simp only [World.size_alloc, World.heap_drewN]; omega) | (simp; omega))⟩
          · have t3 : ¬ (j : Int) < 2 * (u : Int) := by omega
            have HM := hide (show mostA l = (0, false) by unfold mostA; rw [HS2.out]; dsimp only; rw [HU2.out, HL.out, if_neg hg])
            go_wp2_with fail
            go_ret3
            exact ⟨by rw [HM.out]; rfl, by repeat' (first | assumption | with_reducible exact Below.refl _ _ | with_reducible apply Below.drew | with_reducible apply below_drewN | with_reducible apply below_alloc | with_reducible refine below_set ?_ ?_ _ | (simp only [World.size_alloc, World.heap_drewN]; omega) | (simp; omega))⟩
set_option maxHeartbeats 3200000 in
theorem rmost_any (h : Si w A n c l) (hn : n ≤ 40) : Calls Tryz.prog 6 #[.slice A n c] w fun e w' => e = .returned (.tuple #[.int .i64 (mostB l).1, .bool (mostB l).2]) ∧ Below w.heap.size w w' := by
  have HL := hide h.ilen
  have hm := h.len_max
  go_enter Tryz.func6, Tryz.ntmps6
  go_wp2_with fail
  go_loopw [11] (fun i wr => ∃ k : Nat, k ≤ n ∧ i = .int .i64 k ∧ Hid (∀ j y, j < k → l[j]? = some y → decide (n < 2 * cn y l) = false) ∧ ∃ q, wr = w.drewN q) (fun i _ => n - (intOf i).toNat)
  case atStart => exact ⟨0, Nat.zero_le _, rfl, hide (fun j y hj => absurd hj (Nat.not_lt_zero _)), 0, rfl⟩
  case round =>
    obtain ⟨k, hk, rfl, HF, q, rfl⟩ := hrel
    by_cases hlt : k < n
    · obtain ⟨ad, x, rfl, hb, hx, hc⟩ := h.icell hlt
      have HX := hide hx
      clear hx
      go_wp2_with fail
      go_loopw [6, 17] (fun vc i wr => ∃ j : Nat, j ≤ n ∧ i = .int .i64 j ∧ vc = .int .i64 (cn x (l.take j) : Nat) ∧ ∃ q, wr = w.drewN q) (fun _ i _ => n - (intOf i).toNat)
      case atStart => exact ⟨0, Nat.zero_le _, rfl, rfl, _, rfl⟩
      case round =>
        obtain ⟨j, hj, rfl, rfl, q2, rfl⟩ := hrel
        have hcl : cn x (l.take j) ≤ j := by have := cn_le x (l.take j); rw [List.length_take] at this; omega
        obtain ⟨u, hu⟩ : ∃ u, cn x (l.take j) = u := ⟨_, rfl⟩
        have HU := hide hu
        rw [hu] at hcl ⊢
        clear hu
        by_cases hjn : j < n
        · obtain ⟨ad2, y, e2, hb2, hy, hc2⟩ := h.icell hjn
          injection e2 with e2
          subst e2
          have HY := hide hy
          clear hy
          by_cases c1 : x = y
          · have HN := hide (show cn x (l.take (j + 1)) = u + 1 by rw [cn_next x HY.out, HU.out, if_pos c1.symm])
            have t2 : (x == y) = true := by simpa using c1
            clear c1
            go_wp2_with fail
            go_roundw
            case rel => exact ⟨j + 1, by omega, by go_num, by rw [HN.out]; go_num, _, rfl⟩
            case measure => simp [intOf]; omega
          · have HN := hide (show cn x (l.take (j + 1)) = u by rw [cn_next x HY.out, HU.out, if_neg (fun e => c1 e.symm)]; rfl)
            have t2 : (x == y) = false := by simpa using c1
            clear c1
            go_wp2_with fail
            go_roundw
            case rel => exact ⟨j + 1, by omega, by go_num, by rw [HN.out], _, rfl⟩
            case measure => simp [intOf]; omega
        · obtain rfl : j = n := by omega
          have HU2 := hide (show cn x l = u by have := HU.out; rwa [← HL.out, List.take_length] at this)
          have ez : IntKind.i64.wrap (2 * (u : Int)) = 2 * (u : Int) := IntWalk.i64_in _ (by omega)
          by_cases hg : j < 2 * u
          · have t3 : (j : Int) < 2 * (u : Int) := by omega
            have HM := hide (show mostB l = (x, true) by
              unfold mostB
              rw [HL.out, find_at HX.out HF.out (decide_eq_true (by rw [HU2.out]; exact hg))])
            go_wp2_with fail
            go_ret2
            exact ⟨by rw [HM.out]; rfl, by repeat' (first | assumption | with_reducible exact Below.refl _ _ | with_reducible apply Below.drew | with_reducible apply below_drewN | with_reducible apply below_alloc | with_reducible refine below_set ?_ ?_ _ | (simp only [World.size_alloc, World.heap_drewN]; omega) | (simp; omega))⟩
          · have t3 : ¬ (j : Int) < 2 * (u : Int) := by omega
            have HF2 := hide (show ∀ i y, i < k + 1 → l[i]? = some y → decide (j < 2 * cn y l) = false from fun i y hi hy => by
              by_cases e : i = k
              · subst e
                have := HX.out
                rw [hy] at this
                injection this with this
                subst this
                exact decide_eq_false (by rw [HU2.out]; exact hg)
              · exact HF.out i y (by omega) hy)
            go_wp2_with fail
            go_roundw
            case rel => exact ⟨k + 1, by omega, by go_num, HF2, _, rfl⟩
            case measure => simp [intOf]; omega
    · obtain rfl : k = n := by omega
      have HM := hide (show mostB l = (0, false) by
        unfold mostB
        rw [HL.out, List.find?_eq_none.2]
        intro y hy
        obtain ⟨j, hj⟩ := List.getElem?_of_mem hy
        have hj2 := (List.getElem?_eq_some_iff.1 hj).1
        rw [HF.out j y (by rw [← HL.out]; exact hj2) hj]
        decide)
      go_wp2_with fail
      go_ret2
      exact ⟨by rw [HM.out]; rfl, by repeat' (first | assumption | with_reducible exact Below.refl _ _ | with_reducible apply Below.drew | with_reducible apply below_drewN | with_reducible apply below_alloc | with_reducible refine below_set ?_ ?_ _ | (simp only [World.size_alloc, World.heap_drewN]; omega) | (simp; omega))⟩
end
end Go.Proofs.YtfopihlbdceepaaGreat
