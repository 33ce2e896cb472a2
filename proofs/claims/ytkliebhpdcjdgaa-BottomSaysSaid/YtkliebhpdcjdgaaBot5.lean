/-
  bottom.Join: the walk. Conditions: the slices read as lists of numbers.
-/
import Derived.Test.YtkliebhpdcjdgaaBot4
namespace Go.Proofs.Ytkliebhpdcjdgaa
open Go.RowKit Go.Shelf
theorem zeroBlk {w : World} (a b a2 b2 : Value) (t : TypeId) : Blk (((w.alloc (.cells #[a, b] t)).alloc (.cells #[a2, b2] t)).alloc (.cells #[.int .i64 0, .slice none 0 0] t)) w.heap.size t #[a, b] ∧ Blk (((w.alloc (.cells #[a, b] t)).alloc (.cells #[a2, b2] t)).alloc (.cells #[.int .i64 0, .slice none 0 0] t)) (w.heap.size + 1) t #[a2, b2] ∧ Blk (((w.alloc (.cells #[a, b] t)).alloc (.cells #[a2, b2] t)).alloc (.cells #[.int .i64 0, .slice none 0 0] t)) (w.heap.size + 2) t #[.int .i64 0, .slice none 0 0] := by
  obtain ⟨h1, h2⟩ := twoBlk w a b a2 b2 t
  refine ⟨h1.alloc _, h2.alloc _, ?_⟩
  have := Blk.new ((w.alloc (.cells #[a, b] t)).alloc (.cells #[a2, b2] t)) t #[.int .i64 0, .slice none 0 0]
  simpa using this
def jnErr (K1 : Int) (n1 : Nat) (xs : List Int) (K2 : Int) (n2 : Nat) (ys : List Int) : Int := if botErr K1 n1 xs = 0 then (if botErr K2 n2 ys = 0 then (if K1 = K2 then 0 else 7) else botErr K2 n2 ys) else botErr K1 n1 xs
section
variable {A A2 : Option Addr} {n c n2 c2 : Nat} {xs ys : List Int} {w : World}
set_option maxRecDepth 20000 in
set_option maxHeartbeats 3200000 in
theorem bjoin_bad {K1 K2 : Int} (h : Si w A n c xs) (h2 : Si w A2 n2 c2 ys) {E : Int} (he : jnErr K1 n xs K2 n2 ys = E) (h0 : ¬ E = 0) :
    Calls Try.prog 18 #[.agg #[.int .i64 K1, .slice A n c], .agg #[.int .i64 K2, .slice A2 n2 c2]] w fun e w' => e = .returned (.tuple #[.agg #[.int .i64 0, .slice none 0 0], .int .i64 E]) ∧ Below w.heap.size w w' := by
  obtain ⟨pa0, pb0, rb0⟩ := zeroBlk (w := w) (.int .i64 K1) (.slice A n c) (.int .i64 K2) (.slice A2 n2 c2) 37
  have hb0 : Below w.heap.size w (((w.alloc (.cells #[.int .i64 K1, .slice A n c] 37)).alloc (.cells #[.int .i64 K2, .slice A2 n2 c2] 37)).alloc (.cells #[.int .i64 0, .slice none 0 0] 37)) := by repeat' (first | assumption | with_reducible exact Below.refl _ _ | with_reducible apply Below.drew | with_reducible apply below_drewN | with_reducible apply below_alloc | with_reducible refine below_set ?_ ?_ _ | (simp only [World.size_alloc, World.heap_drewN]; omega) | (simp; omega))
  have t1 : (E != 0) = true := by simpa using h0
  by_cases h1 : botErr K1 n xs = 0
  · have HC := hide (bcheck_is (K := K1) (h.on hb0) h1)
    unfold jnErr at he
    rw [if_pos h1] at he
    by_cases h3 : botErr K2 n2 ys = 0
    · have HQ := hide (fun w (hw : Si w A2 n2 c2 ys) => bcheck_is (K := K2) hw h3)
      rw [if_pos h3] at he
      by_cases h4 : K1 = K2
      · rw [if_pos h4] at he; exact absurd he.symm h0
      · rw [if_neg h4] at he
        subst he
        have t2 : (K1 != K2) = true := by simpa using h4
        clear h0 h1 h3 h4 t1
        go_enter Try.func18, Try.ntmps18
        go_wp2_with fail
        refine HC.out.mono ?_
        rintro e w1 ⟨rfl, bel1⟩
        have pa1 := pa0.below bel1 pa0.lt
        have pb1 := pb0.below bel1 pb0.lt
        have rb1 := rb0.below bel1 rb0.lt
        have k1 := below_on hb0 bel1
        have c0 := pb1.at_ (i := 0) (u := .int .i64 K2) rfl
        have c1 := pb1.at_ (i := 1) (u := .slice A2 n2 c2) rfl
        go_wp2_with fail
        refine (HQ.out _ (h2.on k1)).mono ?_
        rintro e w2 ⟨rfl, bel2⟩
        clear c0 c1
        have c0 := (pa1.below bel2 pa1.lt).at_ (i := 0) (u := .int .i64 K1) rfl
        have c1 := (pb1.below bel2 pb1.lt).at_ (i := 0) (u := .int .i64 K2) rfl
        have r2 := rb1.below bel2 rb1.lt
        have k2 := below_on k1 bel2
        have d0 := r2.at_ (i := 0) (u := .int .i64 0) rfl
        have d1 := r2.at_ (i := 1) (u := .slice none 0 0) rfl
        have f0 := r2.free 0
        have f1 := r2.free 1
        go_wp2_with fail
        clear c0 c1 d0 d1 f0 f1
        have bf := (r2.set 0 (.int .i64 0)).set 1 (.slice none 0 0)
        have hbf := below_set (below_set k2 (p := ⟨w.heap.size + 2, 0, none⟩) (by dsimp only; omega) (.int .i64 0)) (p := ⟨w.heap.size + 2, 1, none⟩) (by dsimp only; omega) (.slice none 0 0)
        generalize ((w2.setCell ⟨w.heap.size + 2, 0, none⟩ (.int .i64 0)).setCell ⟨w.heap.size + 2, 1, none⟩ (.slice none 0 0)) = wf at bf hbf ⊢
        have z0 := bf.at_ (i := 0) (u := .int .i64 0) rfl
        have z1 := bf.at_ (i := 1) (u := .slice none 0 0) rfl
        exact bodyPost_ret (v := .tuple #[.agg #[.int .i64 0, .slice none 0 0], .int .i64 7]) (by simp [results, Try.results18, go_sem, z0, z1]) rfl ⟨rfl, hbf⟩
    · rw [if_neg h3] at he
      have HQ := hide (fun w (hw : Si w A2 n2 c2 ys) => bcheck_is (K := K2) hw he)
      clear h0 h1 h3 he
      go_enter Try.func18, Try.ntmps18
      go_wp2_with fail
      refine HC.out.mono ?_
      rintro e w1 ⟨rfl, bel1⟩
      have pb1 := pb0.below bel1 pb0.lt
      have rb1 := rb0.below bel1 rb0.lt
      have k1 := below_on hb0 bel1
      have c0 := pb1.at_ (i := 0) (u := .int .i64 K2) rfl
      have c1 := pb1.at_ (i := 1) (u := .slice A2 n2 c2) rfl
      go_wp2_with fail
      refine (HQ.out _ (h2.on k1)).mono ?_
      rintro e w2 ⟨rfl, bel2⟩
      clear c0 c1
      have r2 := rb1.below bel2 rb1.lt
      have k2 := below_on k1 bel2
      have d0 := r2.at_ (i := 0) (u := .int .i64 0) rfl
      have d1 := r2.at_ (i := 1) (u := .slice none 0 0) rfl
      have f0 := r2.free 0
      have f1 := r2.free 1
      go_wp2_with fail
      clear d0 d1 f0 f1
      have bf := (r2.set 0 (.int .i64 0)).set 1 (.slice none 0 0)
      have hbf := below_set (below_set k2 (p := ⟨w.heap.size + 2, 0, none⟩) (by dsimp only; omega) (.int .i64 0)) (p := ⟨w.heap.size + 2, 1, none⟩) (by dsimp only; omega) (.slice none 0 0)
      generalize ((w2.setCell ⟨w.heap.size + 2, 0, none⟩ (.int .i64 0)).setCell ⟨w.heap.size + 2, 1, none⟩ (.slice none 0 0)) = wf at bf hbf ⊢
      have z0 := bf.at_ (i := 0) (u := .int .i64 0) rfl
      have z1 := bf.at_ (i := 1) (u := .slice none 0 0) rfl
      exact bodyPost_ret (v := .tuple #[.agg #[.int .i64 0, .slice none 0 0], .int .i64 E]) (by simp [results, Try.results18, go_sem, z0, z1]) rfl ⟨rfl, hbf⟩
  · unfold jnErr at he
    rw [if_neg h1] at he
    have HC := hide (bcheck_is (K := K1) (h.on hb0) he)
    clear h0 h1 he
    go_enter Try.func18, Try.ntmps18
    go_wp2_with fail
    refine HC.out.mono ?_
    rintro e w1 ⟨rfl, bel1⟩
    have r2 := rb0.below bel1 rb0.lt
    have k2 := below_on hb0 bel1
    have d0 := r2.at_ (i := 0) (u := .int .i64 0) rfl
    have d1 := r2.at_ (i := 1) (u := .slice none 0 0) rfl
    have f0 := r2.free 0
    have f1 := r2.free 1
    go_wp2_with fail
    clear d0 d1 f0 f1
    have bf := (r2.set 0 (.int .i64 0)).set 1 (.slice none 0 0)
    have hbf := below_set (below_set k2 (p := ⟨w.heap.size + 2, 0, none⟩) (by dsimp only; omega) (.int .i64 0)) (p := ⟨w.heap.size + 2, 1, none⟩) (by dsimp only; omega) (.slice none 0 0)
    generalize ((w1.setCell ⟨w.heap.size + 2, 0, none⟩ (.int .i64 0)).setCell ⟨w.heap.size + 2, 1, none⟩ (.slice none 0 0)) = wf at bf hbf ⊢
    have z0 := bf.at_ (i := 0) (u := .int .i64 0) rfl
    have z1 := bf.at_ (i := 1) (u := .slice none 0 0) rfl
    exact bodyPost_ret (v := .tuple #[.agg #[.int .i64 0, .slice none 0 0], .int .i64 E]) (by simp [results, Try.results18, go_sem, z0, z1]) rfl ⟨rfl, hbf⟩
/-- The first j numbers put in. -/
def putTo (k : Nat) (xs ys : List Int) (j : Nat) : List Int := (ys.take j).foldl (fun a x => (insU x a).take k) xs
theorem putTo_next {k : Nat} {xs ys : List Int} {j : Nat} {x : Int} (h : ys[j]? = some x) : putTo k xs ys (j + 1) = (insU x (putTo k xs ys j)).take k := by
  unfold putTo
  rw [List.take_add_one, h, List.foldl_append]
  rfl
theorem bot_yes {K : Int} {n : Nat} {zs : List Int} (k1 : 1 ≤ K) (k2 : K ≤ 40) (hl : zs.length = n) (hn : (n : Int) ≤ K) (hu : Up zs) (hd : ∀ x ∈ zs, 0 ≤ x ∧ x ≤ 72057594037927935) : botErr K n zs = 0 := by
  refine botErr_0 (by omega) (by omega) ?_
  have : ∀ m, m ≤ n → faultTo (botStep zs) m = 0 := by
    intro m
    induction m with
    | zero => exact fun _ => rfl
    | succ m ih =>
      intro hm
      have hx := getD_at (l := zs) (k := m) (by omega)
      refine faultTo_next (ih (by omega)) (bot_ok hx (draw_of' (hd _ (List.mem_of_getElem? hx))) ?_)
      have h0 := hd _ (List.mem_of_getElem? hx)
      unfold lastOf
      by_cases e : m = 0
      · rw [if_pos e]; omega
      · rw [if_neg e]
        have := List.pairwise_iff_getElem.1 hu (m - 1) m (by omega) (by omega) (by omega)
        rw [show zs.getD m 0 = zs[m]'(by omega) from by simp [List.getD, List.getElem?_eq_getElem (show m < zs.length by omega)], show zs.getD (m - 1) 0 = zs[m - 1]'(by omega) from by simp [List.getD, List.getElem?_eq_getElem (show m - 1 < zs.length by omega)]]
        omega
  exact this n (Nat.le_refl _)
where
  draw_of' {x : Int} (h : 0 ≤ x ∧ x ≤ 72057594037927935) : isDraw x = true := inR_yes h
theorem bot_put {k : Nat} {n : Nat} {zs : List Int} {x : Int} (he : botErr (k : Int) n zs = 0) (hl : zs.length = n) (hx : isDraw x = true) : botErr (k : Int) ((insU x zs).take k).length ((insU x zs).take k) = 0 := by
  obtain ⟨a, b, _, hu, hd⟩ := botErr_ok hl he
  refine bot_yes a b rfl (by rw [List.length_take]; omega) ((insU_up hu).sublist (List.take_sublist _ _)) fun y hy => ?_
  rcases (insU_mem x zs y).1 (List.mem_of_mem_take hy) with rfl | hy
  · exact of_decide_eq_true (show decide (0 ≤ y ∧ y ≤ 72057594037927935) = true from hx)
  · exact hd y hy
set_option maxRecDepth 20000 in
set_option maxHeartbeats 3200000 in
theorem bjoin_ok {k : Nat} (h : Si w A n c xs) (h2 : Si w A2 n2 c2 ys) (he : botErr (k : Int) n xs = 0) (he2 : botErr (k : Int) n2 ys = 0) :
    Calls Try.prog 18 #[.agg #[.int .i64 k, .slice A n c], .agg #[.int .i64 k, .slice A2 n2 c2]] w (BotRet w k (putTo k xs ys n2)) := by
  obtain ⟨pa0, pb0, rb0⟩ := zeroBlk (w := w) (.int .i64 k) (.slice A n c) (.int .i64 k) (.slice A2 n2 c2) 37
  have hb0 : Below w.heap.size w (((w.alloc (.cells #[.int .i64 k, .slice A n c] 37)).alloc (.cells #[.int .i64 k, .slice A2 n2 c2] 37)).alloc (.cells #[.int .i64 0, .slice none 0 0] 37)) := by repeat' (first | assumption | with_reducible exact Below.refl _ _ | with_reducible apply Below.drew | with_reducible apply below_drewN | with_reducible apply below_alloc | with_reducible refine below_set ?_ ?_ _ | (simp only [World.size_alloc, World.heap_drewN]; omega) | (simp; omega))
  have HC := hide (bcheck_is (K := (k : Int)) (h.on hb0) he)
  have HQ := hide (fun w (hw : Si w A2 n2 c2 ys) => bcheck_is (K := (k : Int)) hw he2)
  have H1 := hide he
  have HD := hide (botErr_ok h2.ilen he2).2.2.2.2
  have n40 : n ≤ 40 := by obtain ⟨_, b, d, _, _⟩ := botErr_ok h.ilen he; omega
  have HLX := hide h.ilen
  have hm2 := h2.len_max
  clear he he2
  go_enter Try.func18, Try.ntmps18
  go_wp2_with fail
  refine HC.out.mono ?_
  rintro e w1 ⟨rfl, bel1⟩
  have pa1 := pa0.below bel1 pa0.lt
  have pb1 := pb0.below bel1 pb0.lt
  have rb1 := rb0.below bel1 rb0.lt
  have k1 := below_on hb0 bel1
  have c0 := pb1.at_ (i := 0) (u := .int .i64 k) rfl
  have c1 := pb1.at_ (i := 1) (u := .slice A2 n2 c2) rfl
  clear bel1 pa0 pb0 rb0 hb0
  go_wp2_with fail
  refine (HQ.out _ (h2.on k1)).mono ?_
  rintro e w2 ⟨rfl, bel2⟩
  have pa2 := pa1.below bel2 pa1.lt
  have pb2 := pb1.below bel2 pb1.lt
  have rb2 := rb1.below bel2 rb1.lt
  have k2 := below_on k1 bel2
  clear c0 c1 pa1 pb1 rb1 bel2 k1
  have c0 := pa2.at_ (i := 0) (u := .int .i64 k) rfl
  have c1 := pb2.at_ (i := 0) (u := .int .i64 k) rfl
  have c2' := pa2.at_ (i := 1) (u := .slice A n c) rfl
  have tk : ((k : Int) != (k : Int)) = false := by simp
  have k3 := below_alloc k2 (.cells #[.int .i64 k, .slice A n c] 37)
  have pa3 := pa2.alloc (.cells #[.int .i64 k, .slice A n c] 37)
  have pb3 := pb2.alloc (.cells #[.int .i64 k, .slice A n c] 37)
  have rb3 := rb2.alloc (.cells #[.int .i64 k, .slice A n c] 37)
  have ob3 := Blk.new w2 37 #[.int .i64 k, .slice A n c]
  have hgo : w.heap.size + 2 < w2.heap.size := rb2.lt
  have d1 := pa3.at_ (i := 1) (u := .slice A n c) rfl
  go_wp2_with fail
  refine (clone_ints A n c xs _ (h.on k3) (by omega)).mono ?_
  rintro e w4 ⟨v4, rfl, hb4, A4, c4, rfl, own4⟩
  clear c0 c1 c2' d1 tk
  have hgs : w2.heap.size < (w2.alloc (.cells #[.int .i64 k, .slice A n c] 37)).heap.size := by rw [World.size_alloc]; omega
  have k4 := below_on k3 hb4
  have pb4 := pb3.below hb4 pb3.lt
  have rb4 := rb3.below hb4 rb3.lt
  have ob4 := ob3.below hb4 ob3.lt
  have own4' := own4.mono (base' := w2.heap.size + 1) (by rw [World.size_alloc]; exact Nat.le_refl _)
  clear pa2 pa3 pb2 pb3 rb2 rb3 ob3 own4 hb4 k2 k3
  obtain ⟨go, hgoe⟩ : ∃ go, w2.heap.size = go := ⟨_, rfl⟩
  rw [hgoe] at ob4 own4' hgo hgs
  rw [hgoe]
  have o1 := ob4.at_ (i := 1) (u := .slice A n c) rfl
  have u1 := ob4.free 1
  have ob5 := ob4.set 1 (.slice A4 n c4)
  have pb5 := pb4.far (p := ⟨go, 1, none⟩) (by dsimp only; omega) (.slice A4 n c4)
  have rb5 := rb4.far (p := ⟨go, 1, none⟩) (by dsimp only; omega) (.slice A4 n c4)
  have own5 := own4'.low (p := ⟨go, 1, none⟩) (by dsimp only; omega) (.slice A4 n c4)
  have k5 := below_set k4 (p := ⟨go, 1, none⟩) (by dsimp only; omega) (.slice A4 n c4)
  have b1 := pb5.at_ (i := 1) (u := .slice A2 n2 c2) rfl
  clear pb4 rb4 ob4 own4' k4 hgoe
  go_wp2_with fail
  clear o1 u1 b1
  generalize (w4.setCell ⟨go, 1, none⟩ (.slice A4 n c4)) = w5 at ob5 rb5 pb5 own5 k5 ⊢
  have hs0 : Hid (botErr (k : Int) n (putTo k xs ys 0) = 0) := H1
  go_loopw [37] (fun i wr => ∃ (j : Nat) (A' : Option Addr) (n' c' : Nat), j ≤ n2 ∧ i = .int .i64 j ∧ Blk wr go 37 #[.int .i64 k, .slice A' n' c'] ∧ Own wr (go + 1) 3 1 A' n' c' (ints (putTo k xs ys j)) ∧ Hid (botErr (k : Int) n' (putTo k xs ys j) = 0) ∧ Blk wr (w.heap.size + 2) 37 #[.int .i64 0, .slice none 0 0] ∧ Below w.heap.size w wr) (fun i _ => n2 - (intOf i).toNat)
  case atStart => exact ⟨0, A4, n, c4, by omega, rfl, ob5, own5, hs0, rb5, k5⟩
  case round =>
    clear ob5 own5 hs0 rb5 k5 pb5
    obtain ⟨j, A', n', c', hj, rfl, ob, own, hbe, rb, kb⟩ := hrel
    have o0 := ob.at_ (i := 0) (u := .int .i64 k) rfl
    have o1 := ob.at_ (i := 1) (u := .slice A' n' c') rfl
    by_cases hlt : j < n2
    · obtain ⟨ad, x, rfl, hbk, hx, hc⟩ := (h2.below kb).icell hlt
      have hdx : isDraw x = true := inR_yes (HD.out x (List.mem_of_getElem? hx))
      have HP := hide (bput_ok own.sl hbe.out hdx)
      have HB := hide (bot_put hbe.out own.sl.ilen hdx)
      have HN := hide (putTo_next (k := k) (xs := xs) hx)
      have hgl := ob.lt
      clear hx hdx
      go_wp2_with fail
      refine HP.out.mono ?_
      rintro e w7 ⟨A7, n7, c7, rfl, own7, bel7⟩
      have ob7 := ob.below bel7 ob.lt
      have rb7 := rb.below bel7 rb.lt
      have kb7 := below_on kb bel7
      have hl7 := own7.sl.ilen
      have HE7 : Hid (botErr (k : Int) n7 (putTo k xs ys (j + 1)) = 0) := hide (by rw [HN.out, ← hl7]; exact HB.out)
      clear o0 o1 hl7
      have o0 := ob7.at_ (i := 0) (u := .int .i64 k) rfl
      have o1 := ob7.at_ (i := 1) (u := .slice A' n' c') rfl
      have u0 := ob7.free 0
      have u1 := ob7.free 1
      have ob8 := (ob7.set 0 (.int .i64 k)).set 1 (.slice A7 n7 c7)
      have rb8 := (rb7.far (p := ⟨go, 0, none⟩) (by dsimp only; omega) (.int .i64 k)).far (p := ⟨go, 1, none⟩) (by dsimp only; omega) (.slice A7 n7 c7)
      have own8 := ((own7.low (p := ⟨go, 0, none⟩) (by dsimp only; omega) (.int .i64 k)).low (p := ⟨go, 1, none⟩) (by dsimp only; omega) (.slice A7 n7 c7)).mono (base' := go + 1) hgl
      have kb8 := below_set (below_set kb7 (p := ⟨go, 0, none⟩) (by dsimp only; omega) (.int .i64 k)) (p := ⟨go, 1, none⟩) (by dsimp only; omega) (.slice A7 n7 c7)
      rw [← HN.out] at own8
      clear ob rb own kb own7 ob7 rb7 kb7 bel7
      go_wp2_with fail
      go_roundw
      case rel => exact ⟨j + 1, A7, n7, c7, by omega, by go_num, ob8, own8, HE7, rb8, kb8⟩
      case measure => simp [intOf]; omega
    · obtain rfl : j = n2 := by omega
      have r0 := rb.at_ (i := 0) (u := .int .i64 0) rfl
      have r1 := rb.at_ (i := 1) (u := .slice none 0 0) rfl
      have f0 := rb.free 0
      have f1 := rb.free 1
      go_wp2_with fail
      clear o0 o1 r0 r1 f0 f1
      have bf := (rb.set 0 (.int .i64 k)).set 1 (.slice A' n' c')
      have hbf := below_set (below_set kb (p := ⟨w.heap.size + 2, 0, none⟩) (by dsimp only; omega) (.int .i64 k)) (p := ⟨w.heap.size + 2, 1, none⟩) (by dsimp only; omega) (.slice A' n' c')
      have of := ((own.low (p := ⟨w.heap.size + 2, 0, none⟩) (by dsimp only; omega) (.int .i64 k)).low (p := ⟨w.heap.size + 2, 1, none⟩) (by dsimp only; omega) (.slice A' n' c')).mono (base' := w.heap.size) (by omega)
      generalize ((wr.setCell ⟨w.heap.size + 2, 0, none⟩ (.int .i64 k)).setCell ⟨w.heap.size + 2, 1, none⟩ (.slice A' n' c')) = wf at bf hbf of ⊢
      have z0 := bf.at_ (i := 0) (u := .int .i64 k) rfl
      have z1 := bf.at_ (i := 1) (u := .slice A' n' c') rfl
      exact bodyPost_ret (v := .tuple #[.agg #[.int .i64 k, .slice A' n' c'], .int .i64 0]) (by simp [results, Try.results18, go_sem, z0, z1]) rfl ⟨A', n', c', rfl, of, hbf⟩
end
end Go.Proofs.Ytkliebhpdcjdgaa
