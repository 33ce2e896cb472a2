/-
  cum.Pick, culref.Pick: the walks. Condition: the slice reads as a list of numbers.
-/
import Derived.Test.YtjmkejindmgckaaCum
namespace Go.Proofs.Ytjmkejindmgckaa
open Go.RowKit

section
variable {A : Option Addr} {n c : Nat} {xs : List Int} {w : World} {part : Int}
set_option maxRecDepth 20000 in
set_option maxHeartbeats 1600000 in
theorem pick_bad (h : Si w A n c xs) {E : Int} (he : wErr n xs = E) (h0 : ¬ E = 0) :
    Calls Try.prog 36 #[.slice A n c, .int .i64 part] w fun e w' => e = .returned (.tuple #[.int .i64 0, .int .i64 E]) ∧ Below w.heap.size w w' := by
  have t1 : (E != 0) = true := by simpa using h0
  have HV := hide (wVal_bad (n := n) (xs := xs) (by rw [he]; exact h0))
  have H := hide he
  clear he h0
  go_enter Try.func36, Try.ntmps36
  go_wp2_with fail
  refine (weights_is (h.on (by repeat' (first | assumption | with_reducible exact Below.refl _ _ | with_reducible apply Below.drew | with_reducible apply below_drewN | with_reducible apply below_alloc | with_reducible refine below_set ?_ ?_ _ | (simp only [World.size_alloc, World.heap_drewN]; omega) | (simp; omega)))) HV.out H.out).mono ?_
  rintro e w1 ⟨rfl, hb1⟩
  have hw1 : Below w.heap.size w w1 := below_on (by repeat' (first | assumption | with_reducible exact Below.refl _ _ | with_reducible apply Below.drew | with_reducible apply below_drewN | with_reducible apply below_alloc | with_reducible refine below_set ?_ ?_ _ | (simp only [World.size_alloc, World.heap_drewN]; omega) | (simp; omega))) hb1
  go_wp2_with fail
  go_ret2
  exact ⟨rfl, hw1⟩
set_option maxRecDepth 20000 in
set_option maxHeartbeats 1600000 in
theorem pick_arg (h : Si w A n c xs) (he : wErr n xs = 0) (hp : part < 0 ∨ wsum xs n ≤ part) :
    Calls Try.prog 36 #[.slice A n c, .int .i64 part] w fun e w' => e = .returned (.tuple #[.int .i64 0, .int .i64 1]) ∧ Below w.heap.size w w' := by
  obtain ⟨S, hS⟩ : ∃ S, wsum xs n = S := ⟨_, rfl⟩
  have HV := hide (show wVal n xs = S by rw [wVal, if_pos he, hS])
  rw [hS] at hp
  have H := hide he
  have key : part < 0 ∨ (¬ part < 0 ∧ S ≤ part) := by omega
  clear he hS hp
  rcases key with k1 | ⟨k1, k2⟩
  all_goals
    go_enter Try.func36, Try.ntmps36
    go_wp2_with fail
    refine (weights_is (h.on (by repeat' (first | assumption | with_reducible exact Below.refl _ _ | with_reducible apply Below.drew | with_reducible apply below_drewN | with_reducible apply below_alloc | with_reducible refine below_set ?_ ?_ _ | (simp only [World.size_alloc, World.heap_drewN]; omega) | (simp; omega)))) HV.out H.out).mono ?_
    rintro e w1 ⟨rfl, hb1⟩
    have hw1 : Below w.heap.size w w1 := below_on (by repeat' (first | assumption | with_reducible exact Below.refl _ _ | with_reducible apply Below.drew | with_reducible apply below_drewN | with_reducible apply below_alloc | with_reducible refine below_set ?_ ?_ _ | (simp only [World.size_alloc, World.heap_drewN]; omega) | (simp; omega))) hb1
    have hc3 := ((Blk.new w 3 #[.int .i64 part]).below hb1 (Blk.new w 3 #[.int .i64 part]).lt).at_ (i := 0) rfl
    go_wp2_with fail
    go_ret2
    exact ⟨rfl, hw1⟩
def PickRet (w : World) (xs : List Int) (n : Nat) (part : Int) (e : Ending) (w' : World) : Prop :=
  ∃ i : Nat, i < n ∧ Falls xs part i ∧ e = .returned (.tuple #[.int .i64 i, .int .i64 0]) ∧ Below w.heap.size w w'
set_option maxRecDepth 20000 in
set_option maxHeartbeats 1600000 in
theorem pick_ok (h : Si w A n c xs) (he : wErr n xs = 0) (hp : 0 ≤ part) (hpa : part < wsum xs n) :
    Calls Try.prog 36 #[.slice A n c, .int .i64 part] w (PickRet w xs n part) := by
  obtain ⟨b1, b2, b3, b4, b5⟩ := wErr_zero h.ilen he
  have HPA := hide hpa
  obtain ⟨S, hS⟩ : ∃ S, wsum xs n = S := ⟨_, rfl⟩
  have HV := hide (show wVal n xs = S by rw [wVal, if_pos he, hS])
  rw [hS] at hpa
  have H := hide he
  have HB3 := hide b3
  clear he hS b2 b5 b3
  go_enter Try.func36, Try.ntmps36
  go_wp2_with fail
  refine (weights_is (h.on (by repeat' (first | assumption | with_reducible exact Below.refl _ _ | with_reducible apply Below.drew | with_reducible apply below_drewN | with_reducible apply below_alloc | with_reducible refine below_set ?_ ?_ _ | (simp only [World.size_alloc, World.heap_drewN]; omega) | (simp; omega)))) HV.out H.out).mono ?_
  rintro e w1 ⟨rfl, hb1⟩
  have hw1 : Below w.heap.size w w1 := below_on (by repeat' (first | assumption | with_reducible exact Below.refl _ _ | with_reducible apply Below.drew | with_reducible apply below_drewN | with_reducible apply below_alloc | with_reducible refine below_set ?_ ?_ _ | (simp only [World.size_alloc, World.heap_drewN]; omega) | (simp; omega))) hb1
  have bk := (Blk.new w 3 #[.int .i64 part]).below hb1 (Blk.new w 3 #[.int .i64 part]).lt
  have hc3 := bk.at_ (i := 0) rfl
  go_wp2_with fail
  refine (sums_any (h.on hw1) b1 HB3.out).mono ?_
  rintro e w2 ⟨A2, c2, rfl, own2, hb2⟩
  have hw2 := below_on hw1 hb2
  have bk2 := bk.below hb2 bk.lt
  have hc32 := (bk2.alloc (.cells #[.slice A2 n c2] 22)).at_ (i := 0) rfl
  have hc82 := (Blk.new w2 22 #[.slice A2 n c2]).at_ (i := 0) rfl
  have hs2 := (own2.alloc (.cells #[.slice A2 n c2] 22)).sl
  go_wp2_with fail
  refine (search_pick hc82 hc32 hs2 b1 hp HPA.out).mono ?_
  rintro e w3 ⟨i, hi, hf, rfl, q, rfl⟩
  have HF := hide hf
  clear hf
  go_wp2_with fail
  go_ret2
  exact ⟨i, hi, HF.out, rfl, by repeat' (first | assumption | with_reducible exact Below.refl _ _ | with_reducible apply Below.drew | with_reducible apply below_drewN | with_reducible apply below_alloc | with_reducible refine below_set ?_ ?_ _ | (simp only [World.size_alloc, World.heap_drewN]; omega) | (simp; omega))⟩
theorem falls_from {i : Nat} {x : Int} (hx : xs[i]? = some x) (h : wsum xs i ≤ part) : (part - wsum xs i < x ↔ part < wsum xs (i + 1)) := by
  rw [wsum_step hx]; omega
set_option maxRecDepth 20000 in
set_option maxHeartbeats 1600000 in
theorem rpick_ok (h : Si w A n c xs) (he : wErr n xs = 0) (hp : 0 ≤ part) (hpa : part < wsum xs n) {j : Nat} (hj : j < n) (hF : Falls xs part j) :
    Calls Try.prog 37 #[.slice A n c, .int .i64 part] w fun e w' => e = .returned (.int .i64 j) ∧ w = w' := by
  obtain ⟨b1, b2, b3, b4, b5⟩ := wErr_zero h.ilen he
  have hm := h.len_max
  have HL := hide h.ilen
  have HPA := hide hpa
  have HB3 := hide b3
  have HJ := hide hF
  have hb := wsum_bound b3 (b := n) (by rw [HL.out]; exact Nat.le_refl _)
  have hpb : part < 40000000000000 := by omega
  clear he b2 b5 b3 hF hpa hb
  go_enter Try.func37, Try.ntmps37
  go_wp2_with fail
  go_loop [1, 5] (fun p i => ∃ k : Nat, k < n ∧ i = .int .i64 k ∧ p = .int .i64 (part - wsum xs k) ∧ wsum xs k ≤ part) (fun _ i => n - (intOf i).toNat)
  case atStart => exact ⟨0, b4, rfl, by simp [wsum], hp⟩
  case round =>
    obtain ⟨k, hk, rfl, rfl, hle⟩ := hrel
    obtain ⟨s1, s2⟩ := wsum_bound HB3.out (b := k) (by rw [HL.out]; omega)
    obtain ⟨ad, x, rfl, hbk, hx, hc⟩ := h.icell hk
    obtain ⟨x1, x2⟩ := HB3.out x (List.mem_of_getElem? hx)
    have HS := hide (wsum_step hx)
    have HO := hide (falls_from hx hle)
    have HLE := hide hle
    clear hx
    by_cases hlt : part - wsum xs k < x
    · have HE := hide (Falls.one HB3.out ⟨HLE.out, HO.out.1 hlt⟩ HJ.out (by rw [HL.out]; exact hk) (by rw [HL.out]; exact hj))
      obtain ⟨S, hS⟩ : ∃ S, wsum xs k = S := ⟨_, rfl⟩
      rw [hS] at s1 s2 hle hlt ⊢
      clear hS
      go_wp2_with fail
      go_ret
      exact ⟨by rw [HE.out]; rfl, rfl⟩
    · have hk1 : k + 1 < n := by
        rcases Nat.lt_or_ge (k + 1) n with h1 | h1
        · exact h1
        · exfalso
          have e : k + 1 = n := by omega
          have h2 := HPA.out
          rw [← e] at h2
          exact hlt (HO.out.2 h2)
      have HN := hide (show wsum xs (k + 1) ≤ part by
        have h1 := HS.out
        omega)
      have HE := hide (show part - wsum xs (k + 1) = part - wsum xs k - x by rw [HS.out]; omega)
      obtain ⟨S, hS⟩ : ∃ S, wsum xs k = S := ⟨_, rfl⟩
      rw [hS] at s1 s2 hle hlt HE ⊢
      clear hS
      go_wp2_with fail
      go_round
      case rel => exact ⟨k + 1, hk1, by go_num, by rw [HE.out], HN.out⟩
      case measure => simp [intOf]; omega
end
end Go.Proofs.Ytjmkejindmgckaa
