/-
  board.one, culref.Rule, the two 'newer': the walks. Conditions: none.
-/
import Derived.Test.YtfopihlbdceepaaBoard1
namespace Go.Proofs.Ytfopihlbdceepaa
open Go.RowKit Go.Shelf

theorem preBad_len {s : ByteArray} (h : 16 < s.size) : preBad s = true := by unfold preBad; rw [decide_eq_true h]; rfl
theorem preBad_ok {s : ByteArray} {b : Bool} (h : ¬ 16 < s.size) (hb : (by8 s).any badByte = b) : preBad s = b := by unfold preBad; rw [decide_eq_false h, hb]; rfl
theorem oneErr_pre {r : Rul} (h : preBad r.1 = true) : oneErr r = 3 := if_pos h
theorem oneErr_arg {r : Rul} (h : preBad r.1 = false) (h2 : argBad r) : oneErr r = 1 := by unfold oneErr; rw [if_neg (by rw [h]; simp), if_pos h2]
theorem oneErr_ok {r : Rul} (h : preBad r.1 = false) (h2 : ¬ argBad r) : oneErr r = 0 := by unfold oneErr; rw [if_neg (by rw [h]; simp), if_neg h2]
theorem arg_ways (a b : Int) : a < 0 ∨ (¬ a < 0 ∧ 20 < a) ∨ (¬ a < 0 ∧ ¬ 20 < a ∧ b < 1) ∨ (¬ a < 0 ∧ ¬ 20 < a ∧ ¬ b < 1 ∧ 1000000000000 < b) ∨ (¬ a < 0 ∧ ¬ 20 < a ∧ ¬ b < 1 ∧ ¬ 1000000000000 < b) := by omega
set_option maxRecDepth 20000 in
set_option maxHeartbeats 3200000 in
theorem one_any (p : ByteArray) (a b : Int) (w : World) (hp : p.size ≤ 9223372036854775807) : Calls Try.prog 22 #[.agg #[.string p, .int .i64 a, .int .i64 b]] w fun e w' => e = .returned (.int .i64 (oneErr (p, a, b))) ∧ Below w.heap.size w w' := by
  have b0 := Blk.new w 24 #[.string p, .int .i64 a, .int .i64 b]
  have hb0 : Below w.heap.size w (w.alloc (.cells #[.string p, .int .i64 a, .int .i64 b] 24)) := by repeat' (first | assumption | with_reducible exact Below.refl _ _ | with_reducible apply Below.drew | with_reducible apply below_drewN | with_reducible apply below_alloc | with_reducible refine below_set ?_ ?_ _ | (simp only [World.size_alloc, World.heap_drewN]; omega) | (simp; omega))
  by_cases h16 : 16 < p.size
  · have HE := hide (oneErr_pre (r := (p, a, b)) (preBad_len h16))
    go_enter Try.func22, Try.ntmps22
    go_wp2_with fail
    rw [HE.out]
    go_ret
    exact ⟨rfl, hb0⟩
  · cases hc : (by8 p).any badByte with
    | true =>
      have HE := hide (oneErr_pre (r := (p, a, b)) (preBad_ok h16 hc))
      have CF := hide (fun w => cf_any p hc w)
      clear hc
      go_enter Try.func22, Try.ntmps22
      go_wp2_with fail
      refine (CF.out _).mono ?_
      rintro e w1 ⟨rfl, bel⟩
      go_wp2_with fail
      rw [HE.out]
      go_ret
      exact ⟨rfl, below_on hb0 bel⟩
    | false =>
      have hpre := preBad_ok h16 hc
      have CF := hide (fun w => cf_any p hc w)
      clear hc
      rcases arg_ways a b with h | ⟨h1, h⟩ | ⟨h1, h2, h⟩ | ⟨h1, h2, h3, h⟩ | ⟨h1, h2, h3, h⟩
      · have HE := hide (show oneErr (p, a, b) = 1 from oneErr_arg hpre (by unfold argBad; dsimp only; omega))
        go_enter Try.func22, Try.ntmps22
        go_wp2_with fail
        refine (CF.out _).mono ?_
        rintro e w1 ⟨rfl, bel⟩
        have b1 := b0.below bel b0.lt
        have c1 := b1.at_ (i := 1) (u := .int .i64 a) rfl
        have c2 := b1.at_ (i := 2) (u := .int .i64 b) rfl
        go_wp2_with fail
        rw [HE.out]
        go_ret
        exact ⟨rfl, below_on hb0 bel⟩
      · have HE := hide (show oneErr (p, a, b) = 1 from oneErr_arg hpre (by unfold argBad; dsimp only; omega))
        go_enter Try.func22, Try.ntmps22
        go_wp2_with fail
        refine (CF.out _).mono ?_
        rintro e w1 ⟨rfl, bel⟩
        have b1 := b0.below bel b0.lt
        have c1 := b1.at_ (i := 1) (u := .int .i64 a) rfl
        have c2 := b1.at_ (i := 2) (u := .int .i64 b) rfl
        go_wp2_with fail
        rw [HE.out]
        go_ret
        exact ⟨rfl, below_on hb0 bel⟩
      · have HE := hide (show oneErr (p, a, b) = 1 from oneErr_arg hpre (by unfold argBad; dsimp only; omega))
        go_enter Try.func22, Try.ntmps22
        go_wp2_with fail
        refine (CF.out _).mono ?_
        rintro e w1 ⟨rfl, bel⟩
        have b1 := b0.below bel b0.lt
        have c1 := b1.at_ (i := 1) (u := .int .i64 a) rfl
        have c2 := b1.at_ (i := 2) (u := .int .i64 b) rfl
        go_wp2_with fail
        rw [HE.out]
        go_ret
        exact ⟨rfl, below_on hb0 bel⟩
      · have HE := hide (show oneErr (p, a, b) = 1 from oneErr_arg hpre (by unfold argBad; dsimp only; omega))
        go_enter Try.func22, Try.ntmps22
        go_wp2_with fail
        refine (CF.out _).mono ?_
        rintro e w1 ⟨rfl, bel⟩
        have b1 := b0.below bel b0.lt
        have c1 := b1.at_ (i := 1) (u := .int .i64 a) rfl
        have c2 := b1.at_ (i := 2) (u := .int .i64 b) rfl
        go_wp2_with fail
        rw [HE.out]
        go_ret
        exact ⟨rfl, below_on hb0 bel⟩
      · have HE := hide (show oneErr (p, a, b) = 0 from oneErr_ok hpre (by unfold argBad; dsimp only; omega))
        go_enter Try.func22, Try.ntmps22
        go_wp2_with fail
        refine (CF.out _).mono ?_
        rintro e w1 ⟨rfl, bel⟩
        have b1 := b0.below bel b0.lt
        have c1 := b1.at_ (i := 1) (u := .int .i64 a) rfl
        have c2 := b1.at_ (i := 2) (u := .int .i64 b) rfl
        go_wp2_with fail
        rw [HE.out]
        go_ret
        exact ⟨rfl, below_on hb0 bel⟩
theorem newer_is (r s : Rul) (b : Bool) (h : newer r s = b) : (s.2.2 < r.2.2 ∧ b = true) ∨ (¬ s.2.2 < r.2.2 ∧ ¬ r.2.2 = s.2.2 ∧ b = false) ∨ (¬ s.2.2 < r.2.2 ∧ r.2.2 = s.2.2 ∧ s.2.1 < r.2.1 ∧ b = true) ∨ (¬ s.2.2 < r.2.2 ∧ r.2.2 = s.2.2 ∧ ¬ s.2.1 < r.2.1 ∧ b = false) := by
  subst h
  unfold newer
  by_cases h1 : s.2.2 < r.2.2
  · exact .inl ⟨h1, decide_eq_true (.inl h1)⟩
  · by_cases h2 : r.2.2 = s.2.2
    · by_cases h3 : s.2.1 < r.2.1
      · exact .inr (.inr (.inl ⟨h1, h2, h3, decide_eq_true (.inr ⟨h2, h3⟩)⟩))
      · exact .inr (.inr (.inr ⟨h1, h2, h3, decide_eq_false (by omega)⟩))
    · exact .inr (.inl ⟨h1, h2, decide_eq_false (by omega)⟩)
set_option maxRecDepth 20000 in
set_option maxHeartbeats 1600000 in
theorem newer_any (p q : ByteArray) (a b c d : Int) (w : World) {B : Bool} (h : newer (p, a, b) (q, c, d) = B) : Calls Try.prog 25 #[.agg #[.string p, .int .i64 a, .int .i64 b], .agg #[.string q, .int .i64 c, .int .i64 d]] w fun e w' => e = .returned (.bool B) ∧ Below w.heap.size w w' := by
  rcases newer_is _ _ _ h with ⟨h1, rfl⟩ | ⟨h1, h2, rfl⟩ | ⟨h1, h2, h3, rfl⟩ | ⟨h1, h2, h3, rfl⟩
  all_goals
    clear h
    dsimp only at *
  · go_enter Try.func25, Try.ntmps25
    go_wp2_with fail
    go_ret
    exact ⟨rfl, by repeat' (first | assumption | with_reducible exact Below.refl _ _ | with_reducible apply Below.drew | with_reducible apply below_drewN | with_reducible apply below_alloc | with_reducible refine below_set ?_ ?_ _ | (simp only [World.size_alloc, World.heap_drewN]; omega) | (simp; omega))⟩
  · have t : (b == d) = false := by simpa using h2
    go_enter Try.func25, Try.ntmps25
    go_wp2_with fail
    go_ret
    exact ⟨rfl, by repeat' (first | assumption | with_reducible exact Below.refl _ _ | with_reducible apply Below.drew | with_reducible apply below_drewN | with_reducible apply below_alloc | with_reducible refine below_set ?_ ?_ _ | (simp only [World.size_alloc, World.heap_drewN]; omega) | (simp; omega))⟩
  · subst h2
    go_enter Try.func25, Try.ntmps25
    go_wp2_with fail
    go_ret
    exact ⟨rfl, by repeat' (first | assumption | with_reducible exact Below.refl _ _ | with_reducible apply Below.drew | with_reducible apply below_drewN | with_reducible apply below_alloc | with_reducible refine below_set ?_ ?_ _ | (simp only [World.size_alloc, World.heap_drewN]; omega) | (simp; omega))⟩
  · subst h2
    go_enter Try.func25, Try.ntmps25
    go_wp2_with fail
    go_ret
    exact ⟨rfl, by repeat' (first | assumption | with_reducible exact Below.refl _ _ | with_reducible apply Below.drew | with_reducible apply below_drewN | with_reducible apply below_alloc | with_reducible refine below_set ?_ ?_ _ | (simp only [World.size_alloc, World.heap_drewN]; omega) | (simp; omega))⟩
set_option maxRecDepth 20000 in
set_option maxHeartbeats 1600000 in
theorem rnewer_any (p q : ByteArray) (a b c d : Int) (w : World) {B : Bool} (h : newer (p, a, b) (q, c, d) = B) : Calls Try.prog 29 #[.agg #[.string p, .int .i64 a, .int .i64 b], .agg #[.string q, .int .i64 c, .int .i64 d]] w fun e w' => e = .returned (.bool B) ∧ Below w.heap.size w w' := by
  rcases newer_is _ _ _ h with ⟨h1, rfl⟩ | ⟨h1, h2, rfl⟩ | ⟨h1, h2, h3, rfl⟩ | ⟨h1, h2, h3, rfl⟩
  all_goals
    clear h
    dsimp only at *
  · have t : (b != d) = true := by simp; omega
    go_enter Try.func29, Try.ntmps29
    go_wp2_with fail
    go_ret
    exact ⟨rfl, by repeat' (first | assumption | with_reducible exact Below.refl _ _ | with_reducible apply Below.drew | with_reducible apply below_drewN | with_reducible apply below_alloc | with_reducible refine below_set ?_ ?_ _ | (simp only [World.size_alloc, World.heap_drewN]; omega) | (simp; omega))⟩
  · have t : (b != d) = true := by simpa using h2
    go_enter Try.func29, Try.ntmps29
    go_wp2_with fail
    go_ret
    exact ⟨rfl, by repeat' (first | assumption | with_reducible exact Below.refl _ _ | with_reducible apply Below.drew | with_reducible apply below_drewN | with_reducible apply below_alloc | with_reducible refine below_set ?_ ?_ _ | (simp only [World.size_alloc, World.heap_drewN]; omega) | (simp; omega))⟩
  · subst h2
    go_enter Try.func29, Try.ntmps29
    go_wp2_with fail
    go_ret
    exact ⟨rfl, by repeat' (first | assumption | with_reducible exact Below.refl _ _ | with_reducible apply Below.drew | with_reducible apply below_drewN | with_reducible apply below_alloc | with_reducible refine below_set ?_ ?_ _ | (simp only [World.size_alloc, World.heap_drewN]; omega) | (simp; omega))⟩
  · subst h2
    go_enter Try.func29, Try.ntmps29
    go_wp2_with fail
    go_ret
    exact ⟨rfl, by repeat' (first | assumption | with_reducible exact Below.refl _ _ | with_reducible apply Below.drew | with_reducible apply below_drewN | with_reducible apply below_alloc | with_reducible refine below_set ?_ ?_ _ | (simp only [World.size_alloc, World.heap_drewN]; omega) | (simp; omega))⟩
end Go.Proofs.Ytfopihlbdceepaa
