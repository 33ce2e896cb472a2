/-
  Deal returns the specified result for all arguments: the walk of the law. Conditions: those of the reading.
-/
import Derived.Test.YtgejpinepkockaaRefDeal
namespace Go.Proofs.Ytgejpinepkockaa
open Go.RowKit

/-- The plain law: what the program deals is what the reference deals. -/
theorem deal_agree {xs ds : List Int} : ∀ m, m ≤ xs.length → drawsOk ds m = true → dealt xs ds m = refDeal xs ds m ++ xs.drop m := by
  intro m
  induction m with
  | zero => intro _ _; rfl
  | succ m ih =>
    intro hm hok
    have hok' := drawsOk_le (k := m) (m + 1) (Nat.le_succ _) hok
    have hd : 0 ≤ ds.getD m 0 ∧ ds.getD m 0 ≤ m := by
      simp only [drawsOk, Bool.and_eq_true] at hok
      have := hok.2
      simpa [inR] using this
    have hL := refDeal_len xs ds m
    rw [dealt, refDeal, ih (by omega) hok']
    obtain ⟨dn, hdn⟩ := Int.eq_ofNat_of_zero_le hd.1
    have hdm : dn ≤ m := by omega
    rw [hdn, Int.toNat_natCast]
    have e : refDeal xs ds m ++ xs.drop m = (refDeal xs ds m ++ [xs.getD m 0]) ++ xs.drop (m + 1) := by
      rw [List.append_assoc, List.drop_eq_getElem_cons (by omega)]
      simp [List.getD, List.getElem?_eq_getElem (show m < xs.length by omega)]
    rw [e]
    generalize hl : refDeal xs ds m ++ [xs.getD m 0] = l
    have hll : l.length = m + 1 := by rw [← hl]; simp [hL]
    generalize xs.drop (m + 1) = r
    simp only [swapAt]
    rw [List.set_append_left _ _ (by omega), List.set_append_left _ _ (by simp; omega)]
    simp [List.getD, List.getElem?_append_left (show m < l.length by omega), List.getElem?_append_left (show dn < l.length by omega)]
theorem deal_same {xs ds : List Int} (h : drawsOk ds xs.length = true) : dealt xs ds xs.length = refDeal xs ds xs.length := by
  rw [deal_agree _ (Nat.le_refl _) h]; simp

theorem deal_ok (A1 A2 : Option Addr) (n1 c1 n2 c2 : Nat) (xs ds : List Int) (w : World) (h1 : Si w A1 n1 c1 xs) (h2 : Si w A2 n2 c2 ds) (he : drawsErr n1 n2 ds = 0) :
    Calls Try.prog 15 #[.slice A1 n1 c1, .slice A2 n2 c2] w (Ret w fun v w' => ∃ A c, v = .tuple #[.slice A n1 c, .int .i64 0] ∧ Own w' w.heap.size 3 1 A n1 c (ints (dealt xs ds n1))) :=
  (deal_any A1 A2 n1 c1 n2 c2 xs ds w h1 h2).mono fun e w' ⟨v, hv, hb, A, c, hr, hown⟩ => ⟨v, hv, hb, A, c, by simpa [he] using hr, by simpa [he] using hown⟩
theorem deal_bad (A1 A2 : Option Addr) (n1 c1 n2 c2 : Nat) (xs ds : List Int) (w : World) (h1 : Si w A1 n1 c1 xs) (h2 : Si w A2 n2 c2 ds) (he : ¬ drawsErr n1 n2 ds = 0) :
    Calls Try.prog 15 #[.slice A1 n1 c1, .slice A2 n2 c2] w (Ret w fun v _ => ∃ A c, v = .tuple #[.slice A 0 c, .int .i64 (drawsErr n1 n2 ds)]) :=
  (deal_any A1 A2 n1 c1 n2 c2 xs ds w h1 h2).mono fun e w' ⟨v, hv, hb, A, c, hr, hown⟩ => ⟨v, hv, hb, A, c, by simpa [he] using hr⟩

theorem draws_ok {n m : Nat} {ds : List Int} (h : drawsErr n m ds = 0) : n ≤ 12 ∧ n = m ∧ drawsOk ds m = true := by
  unfold drawsErr at h
  split at h
  · simp at h
  · split at h
    · simp at h
    · split at h
      · rename_i a b c
        exact ⟨by omega, by omega, c⟩
      · simp at h

set_option maxHeartbeats 1600000 in
theorem law_deal (A1 : Option Addr) (n1 c1 : Nat) (xs : List Int) (A2 : Option Addr) (n2 c2 : Nat) (ds : List Int) (w : World) (h1 : Si w A1 n1 c1 xs) (h2 : Si w A2 n2 c2 ds) :
    Calls Try.prog 4 #[.slice A1 n1 c1, .slice A2 n2 c2] w fun e w' => e = .returned (.bool true) ∧ Below w.heap.size w w' := by
  have hm1 := h1.len_max
  have hm2 := h2.len_max
  by_cases he : drawsErr n1 n2 ds = 0
  · have HE := hide he
    clear he
    go_enter Try.func4, Try.ntmps4
    go_wp2_with fail
    refine (deal_ok A1 A2 n1 c1 n2 c2 xs ds _ h1 h2 HE.out).mono ?_
    rintro e w1 ⟨v, rfl, hb1, A, c, rfl, hown⟩
    go_wp2_with fail
    refine (deal_ok _ _ 2 2 2 2 [7, 8] [0, 0] _ (Sl.blk 1 2 (e := 3) (by simp only [heap_alloc_get, World.size_alloc]; simp [ints]) rfl (by simp [maxLen])) (Sl.blk 1 2 (e := 3) (by simp only [heap_alloc_get, World.size_alloc]; simp [ints]) rfl (by simp [maxLen])) rfl).mono ?_
    rintro e w2 ⟨v, rfl, hb2, A', c', rfl, hown2⟩
    have k2 : Below w1.heap.size w1 w2 := below_on (by repeat' (first | assumption | with_reducible exact Below.refl _ _ | with_reducible apply Below.drew | with_reducible apply below_drewN | with_reducible apply below_alloc)) hb2
    have hw2 : Below w.heap.size w w2 := below_on (by repeat' (first | assumption | with_reducible exact Below.refl _ _ | with_reducible apply Below.drew | with_reducible apply below_alloc)) hb2
    go_wp2_with fail
    refine (equal_ints _ _ 2 c' 2 2 (dealt [7, 8] [0, 0] 2) [8, 7] _ (hown2.sl.upd (by repeat' (first | assumption | with_reducible exact Below.refl _ _ | with_reducible apply Below.drew | with_reducible apply below_alloc)) (Nat.le_refl _) (by simp)) (Sl.blk 1 2 (e := 3) (by simp only [heap_alloc_get, World.size_alloc]; simp [ints]) rfl (by simp [maxLen]))).mono ?_
    rintro e w3 ⟨rfl, q, rfl⟩
    have t1 : same (dealt [7, 8] [0, 0] 2) [8, 7] = true := rfl
    obtain ⟨hn12, rfl, hok⟩ := draws_ok HE.out
    have k3 : Below w1.heap.size w1 ((w2.alloc (.cells #[.int .i64 8, .int .i64 7] 3)).drewN q) := by repeat' (first | assumption | with_reducible exact Below.refl _ _ | with_reducible apply Below.drew | with_reducible apply below_drewN | with_reducible apply below_alloc)
    have hw3 : Below w.heap.size w ((w2.alloc (.cells #[.int .i64 8, .int .i64 7] 3)).drewN q) := by repeat' (first | assumption | with_reducible exact Below.refl _ _ | with_reducible apply Below.drew | with_reducible apply below_drewN | with_reducible apply below_alloc)
    go_wp2_with fail
    have cd := draws_any A1 A2 n1 c1 n1 c2 xs ds _ (h1.on hw3) (h2.on hw3)
    rw [HE.out] at cd
    refine cd.mono ?_
    clear cd
    rintro e w4 ⟨rfl, rfl⟩
    have HOK := hide hok
    clear hok
    go_wp2_with fail
    refine (refDeal_any n1 A1 A2 c1 c2 xs ds _ (h1.on hw3) (h2.on hw3) HOK.out hn12).mono ?_
    rintro e w5 ⟨v, rfl, hb5, A5, c5, rfl, hown5⟩
    have hw5 : Below w.heap.size w w5 := below_on hw3 hb5
    have k5 : Below w1.heap.size w1 w5 := below_on k3 hb5
    go_wp2_with fail
    refine (equal_ints A A5 n1 c n1 c5 (dealt xs ds n1) (refDeal xs ds n1) _ (hown.sl.on k5) hown5.sl).mono ?_
    rintro e w6 ⟨rfl, q6, rfl⟩
    have t2 : same (dealt xs ds n1) (refDeal xs ds n1) = true := same_yes (by rw [← h1.ilen]; exact deal_same (by rw [h1.ilen]; exact HOK.out))
    go_wp2_with fail
    go_ret
    exact ⟨rfl, below_drewN hw5 _⟩
  · have HE := hide he
    clear he
    have hbq : (drawsErr n1 n2 ds != 0) = true := by simpa using HE.out
    have hbe : (drawsErr n1 n2 ds == 0) = false := by simpa using HE.out
    go_enter Try.func4, Try.ntmps4
    go_wp2_with fail
    refine (deal_bad A1 A2 n1 c1 n2 c2 xs ds _ h1 h2 HE.out).mono ?_
    rintro e w1 ⟨v, rfl, hb1, A, c, rfl⟩
    go_wp2_with fail
    refine (deal_ok _ _ 2 2 2 2 [7, 8] [0, 0] _ (Sl.blk 1 2 (e := 3) (by simp only [heap_alloc_get, World.size_alloc]; simp [ints]) rfl (by simp [maxLen])) (Sl.blk 1 2 (e := 3) (by simp only [heap_alloc_get, World.size_alloc]; simp [ints]) rfl (by simp [maxLen])) rfl).mono ?_
    rintro e w2 ⟨v, rfl, hb2, A', c', rfl, hown2⟩
    have hw2 : Below w.heap.size w w2 := below_on (by repeat' (first | assumption | with_reducible exact Below.refl _ _ | with_reducible apply Below.drew | with_reducible apply below_drewN | with_reducible apply below_alloc)) hb2
    go_wp2_with fail
    refine (equal_ints _ _ 2 c' 2 2 (dealt [7, 8] [0, 0] 2) [8, 7] _ (hown2.sl.upd (by repeat' (first | assumption | with_reducible exact Below.refl _ _ | with_reducible apply Below.drew | with_reducible apply below_drewN | with_reducible apply below_alloc)) (Nat.le_refl _) (by simp)) (Sl.blk 1 2 (e := 3) (by simp only [heap_alloc_get, World.size_alloc]; simp [ints]) rfl (by simp [maxLen]))).mono ?_
    rintro e w3 ⟨rfl, q, rfl⟩
    have t1 : same (dealt [7, 8] [0, 0] 2) [8, 7] = true := rfl
    have hw3 : Below w.heap.size w ((w2.alloc (.cells #[.int .i64 8, .int .i64 7] 3)).drewN q) := by repeat' (first | assumption | with_reducible exact Below.refl _ _ | with_reducible apply Below.drew | with_reducible apply below_drewN | with_reducible apply below_alloc)
    go_wp2_with fail
    refine (draws_any A1 A2 n1 c1 n2 c2 xs ds _ (h1.on hw3) (h2.on hw3)).mono ?_
    rintro e w4 ⟨rfl, rfl⟩
    go_wp2_with fail
    go_ret
    exact ⟨rfl, hw3⟩
end Go.Proofs.Ytgejpinepkockaa
