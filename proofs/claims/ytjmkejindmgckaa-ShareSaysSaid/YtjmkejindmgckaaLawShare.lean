/-
  The walk of the law ShareSays. Condition: the slice reads as a list of numbers.
-/
import Derived.Test.YtjmkejindmgckaaShare3
import Derived.Test.YtjmkejindmgckaaEq
namespace Go.Proofs.Ytjmkejindmgckaa
open Go.RowKit

theorem ex_fair {o : List Int} (hp : Pm 2 o) (hs : Srt (kap [9, 2]) o 0 2) : fOut [9, 2] o 2 10 2 = [8, 2] := by
  match o, hp.len with
  | [a, b], _ =>
    obtain ⟨u, hu, e1⟩ := hp.rng 0 (by omega)
    obtain ⟨v, hv, e2⟩ := hp.rng 1 (by omega)
    have hne := hp.inj 0 1 (by omega) (by omega)
    have hl := hs 0 1 (by omega) (by omega) (by omega)
    simp only [el, List.getD, List.getElem?_cons_zero, List.getElem?_cons_succ, Option.getD_some] at e1 e2 hne hl
    subst e1; subst e2
    match u, v, hu, hv with
    | 0, 0, _, _ => exact absurd (hne rfl) (by decide)
    | 1, 1, _, _ => exact absurd (hne rfl) (by decide)
    | 0, 1, _, _ =>
      unfold Lt kap el at hl
      simp at hl
    | 1, 0, _, _ => decide
theorem ex_err : wtErr 10 2 [9, 2] = 0 := by decide
theorem rwants_is {A : Option Addr} {n c : Nat} {l : List Int} {w : World} {room : Int} (h : Si w A n c l) {E : Int} (he : wtErr room n l = E) :
    Calls Try.prog 60 #[.int .i64 room, .slice A n c] w fun e w' => e = .returned (.int .i64 E) ∧ Below w.heap.size w w' := by
  have k := rwants_any (room := room) h; rw [he] at k; exact k
section
variable {A : Option Addr} {n c : Nat} {l : List Int} {w : World} {room : Int}
set_option maxRecDepth 20000 in
set_option maxHeartbeats 3200000 in
theorem law_share_bad (h : Si w A n c l) {E : Int} (he : wtErr room n l = E) (h0 : ¬ E = 0) :
    Calls Try.prog 10 #[.int .i64 room, .slice A n c] w fun e w' => e = .returned (.bool true) ∧ Below w.heap.size w w' := by
  have HE := hide he
  have HN0 := hide h0
  have t1 : (E != 0) = true := by simpa using h0
  have t2 : (E == E) = true := by simp
  clear he h0
  go_enter Try.func10, Try.ntmps10
  go_wp2_with fail
  refine (fair_bad h HE.out HN0.out).mono ?_
  rintro e w1 ⟨rfl, hb1⟩
  go_wp2_with fail
  refine (level_bad (h.on hb1) HE.out HN0.out).mono ?_
  rintro e w2 ⟨rfl, hb2⟩
  have k2 := below_on hb1 hb2
  go_wp2_with fail
  refine (fair_ok (l := [9, 2]) (room := 10) (Sl.blk 1 2 (e := 3) (by simp only [heap_alloc_get, World.size_alloc]; simp [ints]) rfl (by simp [maxLen])) ex_err).mono ?_
  rintro e w3 ⟨A3, c3, o3, rfl, s3, p3, q3, hb3⟩
  have k3 : Below w.heap.size w w3 := below_on (by repeat' (first | assumption | with_reducible exact Below.refl _ _ | with_reducible apply Below.drew | with_reducible apply below_drewN | with_reducible apply below_alloc | with_reducible refine below_set ?_ ?_ _ | (simp only [World.size_alloc, World.heap_drewN]; omega) | (simp; omega))) hb3
  rw [ex_fair p3 q3] at s3
  clear p3 q3
  go_wp2_with fail
  refine (equal_yes A3 _ 2 c3 2 [8, 2] _ (s3.on (by repeat' (first | assumption | with_reducible exact Below.refl _ _ | with_reducible apply Below.drew | with_reducible apply below_drewN | with_reducible apply below_alloc | with_reducible refine below_set ?_ ?_ _ | (simp only [World.size_alloc, World.heap_drewN]; omega) | (simp; omega)))) (Sl.blk 1 2 (e := 3) (by simp only [heap_alloc_get, World.size_alloc]; simp [ints]) rfl (by simp [maxLen]))).mono ?_
  rintro e w4 ⟨rfl, q4, hw4⟩
  have hb4 := below_of_drawn hw4
  have k4 : Below w.heap.size w w4 := below_on (by repeat' (first | assumption | with_reducible exact Below.refl _ _ | with_reducible apply Below.drew | with_reducible apply below_drewN | with_reducible apply below_alloc | with_reducible refine below_set ?_ ?_ _ | (simp only [World.size_alloc, World.heap_drewN]; omega) | (simp; omega))) hb4
  clear hw4 hb4
  go_wp2_with fail
  refine (rwants_is (h.on k4) HE.out).mono ?_
  rintro e w5 ⟨rfl, hb5⟩
  have k5 := below_on k4 hb5
  go_wp2_with fail
  go_ret
  exact ⟨rfl, k5⟩
set_option maxRecDepth 20000 in
set_option maxHeartbeats 3200000 in
theorem law_share_ok (h : Si w A n c l) (he : wtErr room n l = 0) :
    Calls Try.prog 10 #[.int .i64 room, .slice A n c] w fun e w' => e = .returned (.bool true) ∧ Below w.heap.size w w' := by
  have HE := hide he
  have HL := hide (show ∃ r, lvl room l n = r ∧ (r = -1 ∨ ∃ k : Nat, r = k) from ⟨_, rfl, by
    by_cases hx : ∃ k, k < 21 ∧ lvOk room l n k = true
    · obtain ⟨k, hk, hok⟩ := hx
      have key : ∀ m, m ≤ 21 → (firstOk (lvOk room l n) m = -1 ∨ ∃ k : Nat, firstOk (lvOk room l n) m = k) := by
        intro m
        induction m with
        | zero => intro _; exact .inl rfl
        | succ m ih =>
          intro hm
          rw [firstOk]
          rcases ih (by omega) with h1 | ⟨k, h1⟩
          · rw [h1, if_neg (by omega)]
            by_cases h2 : lvOk room l n m = true
            · rw [if_pos h2]; exact .inr ⟨m, rfl⟩
            · rw [if_neg h2]; exact .inl rfl
          · rw [h1, if_pos (by omega)]; exact .inr ⟨k, rfl⟩
      exact key 21 (Nat.le_refl _)
    · exact .inl (firstOk_none 21 fun j hj => by
        cases hc : lvOk room l n j
        · rfl
        · exact absurd ⟨j, hj, hc⟩ hx)⟩)
  obtain ⟨r, hr, hrk⟩ := HL.out
  have HLV := hide (fun (w : World) (h : Si w A n c l) => level_ok (room := room) h he)
  have HHA := hide (fun (w : World) (h : Si w A n c l) => halves_ok (room := room) h he)
  rw [hr] at HLV HHA
  clear he hr HL
  rcases hrk with rfl | ⟨k, rfl⟩
  case' inr =>
    rw [lvV_yes, lvE_yes] at HLV
  case' inl =>
    rw [show lvV (-1) = 0 from rfl, show lvE (-1) = 4 from rfl] at HLV
  all_goals
    go_enter Try.func10, Try.ntmps10
    go_wp2_with fail
    refine (fair_ok h HE.out).mono ?_
    rintro e w1 ⟨A1, c1, o, rfl, s1, p1, q1, hb1⟩
    have HP := hide (And.intro p1 q1)
    clear p1 q1
    go_wp2_with fail
    refine (HLV.out _ (h.on hb1)).mono ?_
    rintro e w2 ⟨rfl, hb2⟩
    have k2 := below_on hb1 hb2
    have s2 := s1.on hb2
    go_wp2_with fail
    refine (fair_ok (l := [9, 2]) (room := 10) (Sl.blk 1 2 (e := 3) (by simp only [heap_alloc_get, World.size_alloc]; simp [ints]) rfl (by simp [maxLen])) ex_err).mono ?_
    rintro e w3 ⟨A3, c3, o3, rfl, s3, p3, q3, hb3⟩
    have j3 : Below w2.heap.size w2 w3 := below_on (by repeat' (first | assumption | with_reducible exact Below.refl _ _ | with_reducible apply Below.drew | with_reducible apply below_drewN | with_reducible apply below_alloc | with_reducible refine below_set ?_ ?_ _ | (simp only [World.size_alloc, World.heap_drewN]; omega) | (simp; omega))) hb3
    have k3 := below_on k2 j3
    have x3 := s2.on j3
    rw [ex_fair p3 q3] at s3
    clear p3 q3 s1 s2
    go_wp2_with fail
    refine (equal_yes A3 _ 2 c3 2 [8, 2] _ (s3.on (by repeat' (first | assumption | with_reducible exact Below.refl _ _ | with_reducible apply Below.drew | with_reducible apply below_drewN | with_reducible apply below_alloc | with_reducible refine below_set ?_ ?_ _ | (simp only [World.size_alloc, World.heap_drewN]; omega) | (simp; omega)))) (Sl.blk 1 2 (e := 3) (by simp only [heap_alloc_get, World.size_alloc]; simp [ints]) rfl (by simp [maxLen]))).mono ?_
    rintro e w4 ⟨rfl, q4, hw4⟩
    have hb4 := below_of_drawn hw4
    have j4 : Below w3.heap.size w3 w4 := below_on (by repeat' (first | assumption | with_reducible exact Below.refl _ _ | with_reducible apply Below.drew | with_reducible apply below_drewN | with_reducible apply below_alloc | with_reducible refine below_set ?_ ?_ _ | (simp only [World.size_alloc, World.heap_drewN]; omega) | (simp; omega))) hb4
    have k4 := below_on k3 j4
    have x4 := x3.on j4
    clear hw4 hb4 s3 x3
    go_wp2_with fail
    refine (rwants_is (h.on k4) HE.out).mono ?_
    rintro e w5 ⟨rfl, hb5⟩
    have k5 := below_on k4 hb5
    have x5 := x4.on hb5
    clear x4
    go_wp2_with fail
    refine (rfair_ok (h.on k5) HE.out HP.out.1 HP.out.2).mono ?_
    rintro e w6 ⟨A6, c6, rfl, s6, hb6⟩
    have k6 := below_on k5 hb6
    have x6 := x5.on hb6
    clear x5
    go_wp2_with fail
    refine (equal_yes A1 A6 n c1 c6 _ _ x6 s6).mono ?_
    rintro e w7 ⟨rfl, q7, hw7⟩
    have hb7 := below_of_drawn hw7
    have k7 := below_on k6 hb7
    clear hw7 hb7
    go_wp2_with fail
    refine (HHA.out _ (h.on k7)).mono ?_
    rintro e w8 ⟨rfl, hb8⟩
    have k8 := below_on k7 hb8
    go_wp2_with fail
    go_ret
    exact ⟨rfl, k8⟩
end
theorem law_share (room : Int) (A : Option Addr) (n c : Nat) (l : List Int) (w : World) (h : Si w A n c l) :
    Calls Try.prog 10 #[.int .i64 room, .slice A n c] w fun e w' => e = .returned (.bool true) ∧ Below w.heap.size w w' := by
  by_cases he : wtErr room n l = 0
  · exact law_share_ok h he
  · exact law_share_bad h rfl he
end Go.Proofs.Ytjmkejindmgckaa
