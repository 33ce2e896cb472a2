/-
  culref.Came: the walk. Conditions: the pond and the draw may be, the items read as a list of numbers.
-/
import Derived.Test.YtgejpinepkockaaPond3
namespace Go.Proofs.Ytgejpinepkockaa
open Go.RowKit

/-- The items with the draw's one replaced, if the pond is full. -/
def turned (K S : Int) (xs : List Int) (x d : Int) : List Int := if S < K then xs else xs.set d.toNat x
theorem turned_len (K S : Int) (xs : List Int) (x d : Int) : (turned K S xs x d).length = xs.length := by unfold turned; split <;> simp
theorem came_turned {K S d : Int} {xs : List Int} {x : Int} (h : (xs.length : Int) = min K S) (hd : 0 ≤ d) : came K S xs x d = if S < K then turned K S xs x d ++ [x] else turned K S xs x d := by
  unfold came turned
  by_cases h1 : S < K
  · simp [h1]
  · simp only [h1, if_false]
    by_cases h2 : d < K
    · simp [h2]
    · simp only [h2, if_false]
      rw [List.set_eq_of_length_le (by omega)]
theorem turned_hit {K S d : Int} {xs : List Int} {x : Int} {k : Nat} (h1 : ¬ S < K) (h2 : (k : Int) = d) (hk : k < xs.length) : (turned K S xs x d)[k]? = some x := by
  unfold turned
  rw [if_neg h1, show d.toNat = k by omega]
  simp [hk]
theorem turned_miss {K S d : Int} {xs : List Int} {x : Int} {k : Nat} (h : S < K ∨ ¬ (k : Int) = d) (hd : 0 ≤ d) : (turned K S xs x d)[k]? = xs[k]? := by
  unfold turned
  split
  · rfl
  · rw [List.getElem?_set_ne (by omega)]
theorem ints_snoc {l : List Int} {k : Nat} {y : Int} (h : l[k]? = some y) : ints (l.take (k + 1)) = ints (l.take k) ++ ints [y] := by
  rw [← ints_append, List.take_add_one, h]; rfl

/-- The pond that the reference gives. -/
def CameRet (w : World) (K S : Int) (zs : List Int) (e : Ending) (w' : World) : Prop :=
  ∃ A n c, e = .returned (.agg #[.int .i64 K, .int .i64 S, .slice A n c]) ∧ Own w' w.heap.size 3 1 A n c (ints zs) ∧ Below w.heap.size w w'

set_option maxRecDepth 20000 in
set_option maxHeartbeats 1600000 in
theorem came_any (K S : Int) (A : Option Addr) (n c : Nat) (xs : List Int) (x d : Int) (w : World) (h : Si w A n c xs) (he : putErr K S n d = 0) :
    Calls Try.prog 23 #[.agg #[.int .i64 K, .int .i64 S, .slice A n c], .int .i64 x, .int .i64 d] w (CameRet w K (S + 1) (came K S xs x d)) := by
  obtain ⟨h1, h2, h3, h4⟩ := put_ok he
  obtain ⟨k1, k2, k3, k4, k5⟩ := pond_ok h1
  have hn16 : n ≤ 16 := by omega
  have hm := h.len_max
  have hlen := h.ilen
  have HC := hide (came_turned (x := x) (d := d) (by rw [hlen]; exact k5) h3)
  have HL := hide hlen
  have K5 := hide k5
  clear he h1 h2 k5 hlen
  go_enter Try.func23, Try.ntmps23
  go_wp2
  go_loopw [19] (fun i wr => ∃ (k : Nat) (A' : Option Addr) (c' : Nat), k ≤ n ∧ i = .int .i64 k ∧ Blk wr w.heap.size 32 #[.int .i64 K, .int .i64 S, .slice A n c] ∧ Blk wr (w.heap.size + 1) 32 #[.int .i64 0, .int .i64 0, .slice none 0 0] ∧
      Blk wr (w.heap.size + 1 + 1) 32 #[.int .i64 K, .int .i64 (S + 1), .slice A' k c'] ∧ Own wr (w.heap.size + 3) 3 1 A' k c' (ints ((turned K S xs x d).take k)) ∧ Below w.heap.size w wr) (fun i _ => n - (intOf i).toNat)
  case atStart =>
    refine ⟨0, none, 0, Nat.zero_le _, rfl, ((Blk.new w _ _).alloc _).alloc _, ?_, ?_, Own.nil _ _ _ _, by repeat' (first | assumption | with_reducible exact Below.refl _ _ | with_reducible apply Below.drew | with_reducible apply below_drewN | with_reducible apply below_alloc | with_reducible refine below_set ?_ ?_ _ | (simp only [World.size_alloc, World.heap_drewN]; omega) | (simp; omega))⟩
    · simpa using (Blk.new (w.alloc _) 32 #[.int .i64 0, .int .i64 0, .slice none 0 0]).alloc _
    · simpa using Blk.new ((w.alloc _).alloc _) 32 #[.int .i64 K, .int .i64 (S + 1), .slice none 0 0]
  case round =>
    obtain ⟨k, A', c', hk, rfl, pb, rb, ob, hown, hwr⟩ := hrel
    have zo := ob.lt
    have q0 := ob.at_ (i := 0) rfl
    have q1 := ob.at_ (i := 1) rfl
    have q2 := ob.at_ (i := 2) rfl
    have u2 := ob.free 2
    have p0 := pb.at_ (i := 0) rfl
    have p1 := pb.at_ (i := 1) rfl
    by_cases hlt : k < n
    · obtain ⟨ad, y, rfl, hb, hy, hcy⟩ := h.icell hlt
      have hcy' := (hwr.cell (by rw [add_block]; exact hb)).trans hcy
      have HLn := HL.out
      by_cases hSK : S < K
      · have HY := hide ((turned_miss (x := x) (K := K) (S := S) (.inl hSK) h3).trans hy)
        clear hy HLn hcy
        go_wp2_with (at_builtin; refine wpList_append_sl T_int rfl _ _ rfl (by rfl) (by rfl) (hown.alloc _) (Sl.new wr _ 1 1 [.int .i64 y] (by simp [maxLen]) rfl) (ints_one [y]) (by simp only [maxLen]; omega) (by omega) (by simp; omega) ?_; intro A3 c3 w3 ap; have hw3 : Below w.heap.size w w3 := (below_alloc hwr _).trans (ap.below.mono (by omega)); have p3 := (pb.alloc (.cells #[.int .i64 y] 3)).below ap.below (by omega); have r3 := (rb.alloc (.cells #[.int .i64 y] 3)).below ap.below (by omega); have b3 := (ob.alloc (.cells #[.int .i64 y] 3)).below ap.below (by omega); have q2 := b3.at_ (i := 2) rfl; have u2 := b3.free 2)
        go_roundw
        case rel =>
          refine ⟨k + 1, A3, c3, by omega, by go_num, p3.far (by dsimp only; omega) _, r3.far (by dsimp only; omega) _, ?_, ?_, by repeat' (first | assumption | with_reducible exact Below.refl _ _ | with_reducible apply Below.drew | with_reducible apply below_drewN | with_reducible apply below_alloc | with_reducible refine below_set ?_ ?_ _ | (simp only [World.size_alloc, World.heap_drewN]; omega) | (simp; omega))⟩
          · simpa using b3.set 2 (.slice A3 (k + 1) c3)
          · rw [ints_snoc HY.out]
            exact ap.own.low (by simp) _
        case measure => simp [intOf]; omega
      · by_cases hkd : (k : Int) = d
        · have HY := hide (turned_hit (x := x) (xs := xs) hSK hkd (by omega))
          have t1 : ((k : Int) == d) = true := by simp [hkd]
          have HKD := hide hkd
          clear hy HLn hkd hcy
          go_wp2_with (at_builtin; refine wpList_append_sl T_int rfl _ _ rfl (by rfl) (by rfl) (hown.alloc _) (Sl.new wr _ 1 1 [.int .i64 x] (by simp [maxLen]) rfl) (ints_one [x]) (by simp only [maxLen]; omega) (by omega) (by simp; omega) ?_; intro A3 c3 w3 ap; have hw3 : Below w.heap.size w w3 := (below_alloc hwr _).trans (ap.below.mono (by omega)); have p3 := (pb.alloc (.cells #[.int .i64 x] 3)).below ap.below (by omega); have r3 := (rb.alloc (.cells #[.int .i64 x] 3)).below ap.below (by omega); have b3 := (ob.alloc (.cells #[.int .i64 x] 3)).below ap.below (by omega); have q2 := b3.at_ (i := 2) rfl; have u2 := b3.free 2)
          go_roundw
          case rel =>
            refine ⟨k + 1, A3, c3, by omega, by go_num, p3.far (by dsimp only; omega) _, r3.far (by dsimp only; omega) _, ?_, ?_, by repeat' (first | assumption | with_reducible exact Below.refl _ _ | with_reducible apply Below.drew | with_reducible apply below_drewN | with_reducible apply below_alloc | with_reducible refine below_set ?_ ?_ _ | (simp only [World.size_alloc, World.heap_drewN]; omega) | (simp; omega))⟩
            · simpa using b3.set 2 (.slice A3 (k + 1) c3)
            · rw [ints_snoc HY.out]
              exact ap.own.low (by simp) _
          case measure => simp [intOf]; omega
        · have HY := hide ((turned_miss (x := x) (K := K) (S := S) (.inr hkd) h3).trans hy)
          have t1 : ((k : Int) == d) = false := by simp [hkd]
          clear hy HLn hkd hcy
          go_wp2_with (at_builtin; refine wpList_append_sl T_int rfl _ _ rfl (by rfl) (by rfl) (hown.alloc _) (Sl.new wr _ 1 1 [.int .i64 y] (by simp [maxLen]) rfl) (ints_one [y]) (by simp only [maxLen]; omega) (by omega) (by simp; omega) ?_; intro A3 c3 w3 ap; have hw3 : Below w.heap.size w w3 := (below_alloc hwr _).trans (ap.below.mono (by omega)); have p3 := (pb.alloc (.cells #[.int .i64 y] 3)).below ap.below (by omega); have r3 := (rb.alloc (.cells #[.int .i64 y] 3)).below ap.below (by omega); have b3 := (ob.alloc (.cells #[.int .i64 y] 3)).below ap.below (by omega); have q2 := b3.at_ (i := 2) rfl; have u2 := b3.free 2)
          go_roundw
          case rel =>
            refine ⟨k + 1, A3, c3, by omega, by go_num, p3.far (by dsimp only; omega) _, r3.far (by dsimp only; omega) _, ?_, ?_, by repeat' (first | assumption | with_reducible exact Below.refl _ _ | with_reducible apply Below.drew | with_reducible apply below_drewN | with_reducible apply below_alloc | with_reducible refine below_set ?_ ?_ _ | (simp only [World.size_alloc, World.heap_drewN]; omega) | (simp; omega))⟩
            · simpa using b3.set 2 (.slice A3 (k + 1) c3)
            · rw [ints_snoc HY.out]
              exact ap.own.low (by simp) _
          case measure => simp [intOf]; omega
    · obtain rfl : k = n := by omega
      have K5' := K5.out
      by_cases hSK : S < K
      · have hkK : (k : Int) < K := by omega
        clear K5'
        go_wp2_with (at_builtin; refine wpList_append_sl T_int rfl _ _ rfl (by rfl) (by rfl) (hown.alloc _) (Sl.new wr _ 1 1 [.int .i64 x] (by simp [maxLen]) rfl) (ints_one [x]) (by simp only [maxLen]; omega) (by omega) (by simp; omega) ?_; intro A3 c3 w3 ap; have hw3 : Below w.heap.size w w3 := (below_alloc hwr _).trans (ap.below.mono (by omega)); have r3 := (rb.alloc (.cells #[.int .i64 x] 3)).below ap.below (by omega); have b3 := (ob.alloc (.cells #[.int .i64 x] 3)).below ap.below (by omega); have q0 := b3.at_ (i := 0) rfl; have q1 := b3.at_ (i := 1) rfl; have q2 := b3.at_ (i := 2) rfl; have u2 := b3.free 2; have r0 := r3.at_ (i := 0) rfl; have r1 := r3.at_ (i := 1) rfl; have r2 := r3.at_ (i := 2) rfl; have v0 := r3.free 0; have v1 := r3.free 1; have v2 := r3.free 2)
        refine bodyPost_ret (v := .agg #[.int .i64 K, .int .i64 (S + 1), .slice A3 (k + 1) c3]) (by simp [results, Try.results23, go_sem, r0, r1, r2]) rfl ⟨_, _, _, rfl, ?_, by repeat' (first | assumption | with_reducible exact Below.refl _ _ | with_reducible apply Below.drew | with_reducible apply below_drewN | with_reducible apply below_alloc | with_reducible refine below_set ?_ ?_ _ | (simp only [World.size_alloc, World.heap_drewN]; omega) | (simp; omega))⟩
        rw [HC.out, if_pos (show S < K by omega), ints_append, ← List.take_of_length_le (l := turned K S xs x d) (i := k) (by rw [turned_len, HL.out]; exact Nat.le_refl _)]
        exact ((((ap.own.low (by dsimp only; omega) _).low (by dsimp only; omega) _).low (by dsimp only; omega) _).low (by dsimp only; omega) _).mono (by omega)
      · have hkK : ¬ (k : Int) < K := by omega
        clear K5'
        have r0 := rb.at_ (i := 0) rfl
        have r1 := rb.at_ (i := 1) rfl
        have r2 := rb.at_ (i := 2) rfl
        have v0 := rb.free 0
        have v1 := rb.free 1
        have v2 := rb.free 2
        go_wp2
        refine bodyPost_ret (v := .agg #[.int .i64 K, .int .i64 (S + 1), .slice A' k c']) (by simp [results, Try.results23, go_sem, r0, r1, r2]) rfl ⟨_, _, _, rfl, ?_, by repeat' (first | assumption | with_reducible exact Below.refl _ _ | with_reducible apply Below.drew | with_reducible apply below_drewN | with_reducible apply below_alloc | with_reducible refine below_set ?_ ?_ _ | (simp only [World.size_alloc, World.heap_drewN]; omega) | (simp; omega))⟩
        rw [HC.out, if_neg (show ¬ S < K by omega), ← List.take_of_length_le (l := turned K S xs x d) (i := k) (by rw [turned_len, HL.out]; exact Nat.le_refl _)]
        exact (((hown.low (by dsimp only; omega) _).low (by dsimp only; omega) _).low (by dsimp only; omega) _).mono (by omega)
end Go.Proofs.Ytgejpinepkockaa
