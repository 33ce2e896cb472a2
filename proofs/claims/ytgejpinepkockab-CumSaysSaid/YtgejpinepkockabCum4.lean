/-
  culref.Even: the walk. Condition: the slice reads as a list of weights that may be.
-/
import Derived.Test.YtgejpinepkockabCum3
namespace Go.Proofs.Ytgejpinepkockab
open Go.RowKit

theorem cnt_is {start all y : Int} (ha : 0 ≤ all) {k m : Nat} (hm : m ≤ k) (h : ∀ j : Nat, j < m → start + j * all < y) (he : m = k ∨ ¬ start + m * all < y) : cnt start all y k = m := by
  rcases he with rfl | he
  · exact cnt_all ha m h
  · have := cnt_first ha h he (k - m)
    rwa [show m + (k - m) = k by omega] at this
section
variable {w : World} {b4 b5 b7 k : Nat} {start S x : Int}
set_option maxRecDepth 20000 in
set_option maxHeartbeats 1600000 in
theorem belowFn_any (h4 : w.cell? ⟨b4, 0, none⟩ = some (.int .i64 k)) (h5 : w.cell? ⟨b5, 0, none⟩ = some (.int .i64 start)) (h7 : w.cell? ⟨b7, 0, none⟩ = some (.int .i64 S)) (hk : k ≤ 1000)
    (s0 : 0 ≤ start) (s1 : start ≤ 40000000000000) (S0 : 0 ≤ S) (S1 : S ≤ 40000000000000) (x0 : 0 ≤ x) (x1 : x ≤ 40000000000000) :
    Calls Try.prog 78 #[.int .i64 x, .pointer (some ⟨b4, 0, none⟩), .pointer (some ⟨b5, 0, none⟩), .pointer (some ⟨b7, 0, none⟩)] w fun e w' => e = .returned (.int .i64 (cnt start S (x * k) k)) ∧ w = w' := by
  have hx0 : 0 ≤ x * k ∧ x * k ≤ 40000000000000000 := by
    have g4 : x * k ≤ 40000000000000 * 1000 := Int.mul_le_mul x1 (by omega) (by omega) (by decide)
    have g5 : 0 ≤ x * k := Int.mul_nonneg x0 (by omega)
    omega
  obtain ⟨p1, p2⟩ := hx0
  go_enter Try.func78, Try.ntmps78
  go_wp2_with fail
  go_loop [6] (fun i => ∃ m : Nat, m ≤ k ∧ i = .int .i64 m ∧ ∀ j : Nat, j < m → start + j * S < x * k) (fun i => k - (intOf i).toNat)
  case atStart => exact ⟨0, Nat.zero_le _, rfl, fun j hj => absurd hj (Nat.not_lt_zero _)⟩
  case round =>
    obtain ⟨m, hm, rfl, hall⟩ := hrel
    have HA := hide hall
    clear hall
    have hj0 : 0 ≤ (m : Int) * S ∧ (m : Int) * S ≤ 40000000000000000 := by
      have g1 : (m : Int) * S ≤ 1000 * 40000000000000 := Int.mul_le_mul (by omega) S1 S0 (by decide)
      have g2 : 0 ≤ (m : Int) * S := Int.mul_nonneg (by omega) S0
      omega
    obtain ⟨j1, j2⟩ := hj0
    by_cases hlt : m < k
    · by_cases hp : start + (m : Int) * S < x * k
      · have HN := hide (show ∀ j : Nat, j < m + 1 → start + j * S < x * k from fun j hj => by
          by_cases e : j = m
          · subst e; exact hp
          · exact HA.out j (by omega))
        go_wp2_with fail
        go_round
        case rel => exact ⟨m + 1, by omega, by go_num, HN.out⟩
        case measure => simp [intOf]; omega
      · have HE := hide (cnt_is S0 hm HA.out (.inr hp))
        go_wp2_with fail
        go_ret
        exact ⟨by rw [HE.out]; rfl, rfl⟩
    · have HE := hide (cnt_is S0 hm HA.out (.inl (by omega)))
      obtain rfl : m = k := by omega
      go_wp2_with fail
      go_ret
      exact ⟨by rw [HE.out]; rfl, rfl⟩
end
section
variable {A : Option Addr} {n c k : Nat} {xs : List Int} {w : World} {start : Int}
theorem even_take {xs : List Int} {S k start : Int} {n i : Nat} (hi : i < n) (j : Nat) : (evenTo xs S k start n j).take (i + 1) = (evenTo xs S k start n j).take i ++ [cnt start S (wsum xs (i + 1) * k) j - cnt start S (wsum xs i * k) j] := by
  rw [List.take_add_one, evenTo_at hi]; rfl
set_option maxRecDepth 20000 in
set_option maxHeartbeats 3200000 in
theorem reven_ok (h : Si w A n c xs) (he : wErr n xs = 0) (hk : k ≤ 1000) (s1 : 0 ≤ start) (s2 : start < wsum xs n) :
    Calls Try.prog 23 #[.slice A n c, .int .i64 k, .int .i64 start] w (RowRet w n (evenTo xs (wsum xs n) k start n k)) := by
  obtain ⟨b1, b2, b3, b4, b5⟩ := wErr_zero h.ilen he
  have hm := h.len_max
  obtain ⟨S, hS⟩ : ∃ S, wsum xs n = S := ⟨_, rfl⟩
  have HV := hide (show wVal n xs = S by rw [wVal, if_pos he, hS])
  rw [hS] at s2 ⊢
  have H := hide he
  have HB3 := hide b3
  have HL := hide h.ilen
  have hb := wsum_bound b3 (b := n) (by rw [HL.out]; exact Nat.le_refl _)
  rw [hS] at hb
  obtain ⟨S0, S1⟩ := hb
  have S2 : S ≤ 40000000000000 := by omega
  have eg := enters_of Try.func78 (by kernel_rfl) rfl
  clear he hS b2 b5 b3 S1
  go_enter Try.func23, Try.ntmps23
  go_wp2_with fail
  refine (rweights_is (h.on (by repeat' (first | assumption | with_reducible exact Below.refl _ _ | with_reducible apply Below.drew | with_reducible apply below_drewN | with_reducible apply below_alloc | with_reducible refine below_set ?_ ?_ _ | (simp only [World.size_alloc, World.heap_drewN]; omega) | (simp; omega)))) HV.out H.out).mono ?_
  rintro e w1 ⟨rfl, hb1⟩
  have hw1 : Below w.heap.size w w1 := below_on (by repeat' (first | assumption | with_reducible exact Below.refl _ _ | with_reducible apply Below.drew | with_reducible apply below_drewN | with_reducible apply below_alloc | with_reducible refine below_set ?_ ?_ _ | (simp only [World.size_alloc, World.heap_drewN]; omega) | (simp; omega))) hb1
  have bk4 := (((Blk.new w 3 #[.int .i64 (k : Int)]).alloc (.cells #[.int .i64 start] 3)).below hb1 (by simp only [World.size_alloc]; omega)).alloc (.cells #[.int .i64 S] 3)
  have bk5 := ((Blk.new (w.alloc (.cells #[.int .i64 (k : Int)] 3)) 3 #[.int .i64 start]).below hb1 (by simp)).alloc (.cells #[.int .i64 S] 3)
  have bk7 := Blk.new w1 3 #[.int .i64 S]
  rw [World.size_alloc] at bk5
  have hw3 : Below w.heap.size w (w1.alloc (.cells #[.int .i64 S] 3)) := hw1.alloc hw1.size _
  go_wp2_with fail
  obtain ⟨w3, hw3e⟩ : ∃ w3, w1.alloc (.cells #[.int .i64 S] 3) = w3 := ⟨_, rfl⟩
  obtain ⟨g7, hg7⟩ : ∃ g7, w1.heap.size = g7 := ⟨_, rfl⟩
  rw [hw3e] at bk4 bk5 bk7 hw3 ⊢
  rw [hg7] at bk7 ⊢
  have z3 := hw3.size
  have H4 := hide (fun (W : World) (hb : Below w3.heap.size w3 W) => (bk4.below hb bk4.lt).at_ (i := 0) rfl)
  have H5 := hide (fun (W : World) (hb : Below w3.heap.size w3 W) => (bk5.below hb bk5.lt).at_ (i := 0) rfl)
  have H7 := hide (fun (W : World) (hb : Below w3.heap.size w3 W) => (bk7.below hb bk7.lt).at_ (i := 0) rfl)
  have HC := hide (fun (W : World) (hb : Below w3.heap.size w3 W) (x : Int) (x0 : 0 ≤ x) (x1 : x ≤ 40000000000000) => belowFn_any (H4.out W hb) (H5.out W hb) (H7.out W hb) hk s1 (by omega) S0 S2 x0 x1)
  have h3 := h.on hw3
  clear hw3e hg7 hb1 hw1 bk4 bk5 bk7 H4 H5 H7
  go_loopw [10, 11, 22] (fun vo va vi wr => ∃ (i : Nat) (A : Option Addr) (c : Nat), i ≤ n ∧ vi = .int .i64 i ∧ va = .int .i64 (wsum xs i) ∧ vo = .slice A i c ∧ Own wr w3.heap.size 3 1 A i c (ints ((evenTo xs S k start n k).take i)) ∧ Below w3.heap.size w3 wr) (fun _ _ i _ => n - (intOf i).toNat)
  case atStart => exact ⟨0, none, 0, Nat.zero_le _, rfl, rfl, rfl, Own.nil _ _ _ _, Below.refl _ _⟩
  case round =>
    obtain ⟨i, Ao, co, hi, rfl, rfl, rfl, own, hb⟩ := hrel
    have zr := hb.size
    by_cases hlt : i < n
    · obtain ⟨ad, x, rfl, hbk, hx, hc⟩ := (h3.on hb).icell hlt
      obtain ⟨g1, g2⟩ := wsum_bound HB3.out (b := i) (by rw [HL.out]; exact hi)
      obtain ⟨g3, g4⟩ := wsum_bound HB3.out (b := i + 1) (by rw [HL.out]; exact hlt)
      obtain ⟨x1, x2⟩ := HB3.out x (List.mem_of_getElem? hx)
      have HS := hide (wsum_step hx)
      rw [HS.out] at g3 g4
      have g5 : wsum xs i + x ≤ 40000000000000 := by omega
      have g6 : wsum xs i ≤ 40000000000000 := by omega
      have c1 := cnt_nonneg start S ((wsum xs i + x) * k) k
      have c2 := cnt_nonneg start S (wsum xs i * k) k
      have HT := hide (even_take (xs := xs) (S := S) (k := k) (start := start) hlt k)
      rw [HS.out] at HT
      have C1 := hide (HC.out wr hb _ g3 g5)
      have C2 := hide (HC.out wr hb _ g1 g6)
      obtain ⟨v1, hv1⟩ : ∃ v, cnt start S ((wsum xs i + x) * k) k = v := ⟨_, rfl⟩
      obtain ⟨v2, hv2⟩ : ∃ v, cnt start S (wsum xs i * k) k = v := ⟨_, rfl⟩
      rw [hv1] at c1 HT C1
      rw [hv2] at c2 HT C2
      obtain ⟨c3, c4⟩ := c1
      obtain ⟨c5, c6⟩ := c2
      clear hx hv1 hv2
      obtain ⟨T, hT⟩ : ∃ T, wsum xs i = T := ⟨_, rfl⟩
      rw [hT] at g1 g2 g3 g4 g5 g6 C1 C2 HS ⊢
      clear hT
      go_wp2_with fail
      refine C1.out.mono ?_
      rintro e w' ⟨rfl, rfl⟩
      go_wp2_with fail
      refine C2.out.mono ?_
      rintro e w' ⟨rfl, rfl⟩
      go_wp2_with (at_builtin; refine wpList_append_sl T_int rfl _ _ rfl (by rfl) (by rfl) (own.alloc _) (Sl.lit (at_new _ _)) (ints_one [v1 - v2]) (by simp only [maxLen]; omega) (by omega) (by simp; omega) ?_; intro A4 c4 w4 ap)
      have own4 := ap.own
      have hb4 : Below w3.heap.size w3 w4 := (hb.alloc zr _).trans ap.below
      rw [show ints ((evenTo xs S k start n k).take i) ++ [Value.int .i64 (v1 - v2)] = ints ((evenTo xs S k start n k).take (i + 1)) from by rw [HT.out, ints_append]; rfl] at own4
      clear ap
      go_wp2_with fail
      go_roundw
      case rel => exact ⟨i + 1, A4, c4, by omega, by go_num, by rw [HS.out], rfl, own4, hb4⟩
      case measure => simp [intOf]; omega
    · obtain rfl : i = n := by omega
      rw [List.take_of_length_le (by rw [evenTo_len]; exact Nat.le_refl _)] at own
      go_wp2_with fail
      go_ret
      exact ⟨_, _, rfl, own.mono z3, below_on hw3 hb⟩
end
end Go.Proofs.Ytgejpinepkockab
