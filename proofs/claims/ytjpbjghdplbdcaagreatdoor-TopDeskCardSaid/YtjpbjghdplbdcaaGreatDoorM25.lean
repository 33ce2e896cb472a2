/- Proves the parts of the claim that its last text joins: Bot4. Conditions: those that each theorem names. -/
import Derived.Test.YtjpbjghdplbdcaaGreatDoorM24
import Derived.Deep.RegionHeld3
import Derived.Deep.DeepCutAuto
section
namespace Go.Proofs.YtjpbjghdplbdcaaGreatDoor
open Go.RowKit Go.Shelf
section
variable {A : Option Addr} {n c : Nat} {xs : List Int} {w : World}
theorem keep2 {w1 W : World} {b : Nat} {v0 v1 : Value} (hb : b < w1.heap.size) (f0 : w1.cell? ⟨b, 0, none⟩ = some v0) (f1 : w1.cell? ⟨b, 1, none⟩ = some v1) (h : Below w1.heap.size w1 W) :
    Below w1.heap.size w1 W ∧ W.cell? ⟨b, 0, none⟩ = some v0 ∧ W.cell? ⟨b, 1, none⟩ = some v1 :=
  ⟨h, (h.cell (p := ⟨b, 0, none⟩) hb).trans f0, (h.cell (p := ⟨b, 1, none⟩) hb).trans f1⟩
set_option maxRecDepth 20000 in
set_option maxHeartbeats 3200000 in
theorem botput_ok {k : Nat} {x : Int} (h : Si w A n c xs) (he : botErr (k : Int) n xs = 0) (hd : isDraw x = true) :
    Calls Tryz.prog 189 #[.agg #[.int .i64 k, .slice A n c], .int .i64 x] w (BotRet w k ((insU x xs).take k)) := by
  have hlen := h.ilen
  obtain ⟨k1, k40, hnk, hup, hdr⟩ := botErr_ok hlen he
  have hm := h.len_max
  have n40 : n ≤ 40 := by omega
  obtain ⟨pb0, rb0⟩ := twoBlk w (.int .i64 k) (.slice A n c) (.int .i64 0) (.slice none 0 0) 47
  have hb0 : Below w.heap.size w ((w.alloc (.cells #[.int .i64 k, .slice A n c] 47)).alloc (.cells #[.int .i64 0, .slice none 0 0] 47)) := by repeat' (first | assumption | with_reducible exact Below.refl _ _ | with_reducible apply Below.drew | with_reducible apply below_drewN | with_reducible apply below_alloc | with_reducible refine below_set ?_ ?_ _ | (simp only [World.size_alloc, World.heap_drewN]; omega) | (simp; omega))
  have HC := hide (botcheck_is (K := (k : Int)) (h.on hb0) he)
  have HD := hide hd
  have HUP := hide hup
  have HLN := hide hlen
  clear he hd hup hdr hlen
  go_enter Tryz.func189, Tryz.ntmps189
  go_wp2_with fail
  refine HC.out.mono ?_
  rintro e w1 ⟨rfl, hb1⟩
  have hw1 : Below w.heap.size w w1 := below_on hb0 hb1
  go_wp2_with fail
  refine (hnum_is HD.out _).mono ?_
  rintro e w2 ⟨rfl, rfl⟩
  have pb1 := pb0.below hb1 pb0.lt
  have rb1 := rb0.below hb1 rb0.lt
  have l0 := pb1.lt
  have l1 := rb1.lt
  have f0 := pb1.at_ (i := 0) (u := .int .i64 k) rfl
  have f1 := pb1.at_ (i := 1) (u := .slice A n c) rfl
  have hx1 := h.on hw1
  clear pb0 rb0 hb1 hb0
  go_upto_region 6 with fail
  go_cut [7] (fun s7 wx => ∃ g A' c', s7 = .pointer (some ⟨g, 0, none⟩) ∧ Blk wx g 47 #[.int .i64 k, .slice A' n c'] ∧ Own wx w1.heap.size 3 1 A' n c' (ints xs) ∧ w1.heap.size ≤ g ∧ Below w1.heap.size w1 wx)
  case first =>
    go_region_held3 (fun w' => Below w1.heap.size w1 w' ∧ w'.cell? ⟨w.heap.size, 0, none⟩ = some (.int .i64 k) ∧ w'.cell? ⟨w.heap.size, 1, none⟩ = some (.slice A n c)) ((refine keep2 l0 f0 f1 ?_; repeat' (first | assumption | with_reducible exact Below.refl _ _ | with_reducible apply Below.drew | with_reducible apply below_drewN | with_reducible apply below_alloc | with_reducible refine below_set ?_ ?_ _ | (simp only [World.size_alloc, World.heap_drewN]; omega) | (simp; omega))))
      (first | (go_at_call 68; refine (clone_ints A n c xs _ (hx1.on (by repeat' (first | assumption | with_reducible exact Below.refl _ _ | with_reducible apply Below.drew | with_reducible apply below_drewN | with_reducible apply below_alloc | with_reducible refine below_set ?_ ?_ _ | (simp only [World.size_alloc, World.heap_drewN]; omega) | (simp; omega)))) (by omega)).mono ?_; rintro e w2 ⟨v, rfl, hb2, A', c', rfl, hown⟩; have hw2 : Below w1.heap.size w1 w2 := below_on (by repeat' (first | assumption | with_reducible exact Below.refl _ _ | with_reducible apply Below.drew | with_reducible apply below_drewN | with_reducible apply below_alloc | with_reducible refine below_set ?_ ?_ _ | (simp only [World.size_alloc, World.heap_drewN]; omega) | (simp; omega))) hb2; have hz2 := hw2.size; obtain ⟨hc2, hf2⟩ := bcell hb2))
    all_goals go_wp2_with fail
    · go_meet
      refine ⟨w2.heap.size, A', c', rfl, ?_, ?_, hz2, ?_⟩
      · exact Blk.new _ _ _
      · exact (hown.alloc _).mono (by simp)
      · repeat' (first | assumption | with_reducible exact Below.refl _ _ | with_reducible apply Below.drew | with_reducible apply below_drewN | with_reducible apply below_alloc | with_reducible refine below_set ?_ ?_ _ | (simp only [World.size_alloc, World.heap_drewN]; omega) | (simp; omega))
    · go_meet
      refine ⟨w1.heap.size, A', c', rfl, ?_, ?_, Nat.le_refl _, by repeat' (first | assumption | with_reducible exact Below.refl _ _ | with_reducible apply Below.drew | with_reducible apply below_drewN | with_reducible apply below_alloc | with_reducible refine below_set ?_ ?_ _ | (simp only [World.size_alloc, World.heap_drewN]; omega) | (simp; omega))⟩
      · have hb := ((Blk.new w1 47 #[.int .i64 0, .slice none 0 0]).drew.below hb2 (by simp)).set 0 (.int .i64 k) |>.set 1 (.slice A' n c')
        simpa using hb
      · exact ((hown.low (by simp) _).low (by simp) _).mono (by simp)
  case rest =>
    obtain ⟨g, A', c', rfl, hblk, hown, hg, hbc⟩ := hcut
    have hwc : Below w.heap.size w wc := below_on hw1 hbc
    have hzc := hbc.size
    have pb := pb1.below hbc l0
    have rb := rb1.below hbc l1
    have ng1 : ¬ w.heap.size + 1 = g := by omega
    have ng2 : ¬ g = w.heap.size + 1 := by omega
    have q0 := hblk.at_ (i := 0) (u := .int .i64 k) rfl
    have q1 := hblk.at_ (i := 1) (u := .slice A' n c') rfl
    clear f0 f1
    obtain ⟨i, hi⟩ : ∃ i, xs.countP (· < x) = i := ⟨_, rfl⟩
    cases hcn : xs.contains x
    · have HS := hide (bs_ok hown HUP.out (by omega) hi hcn)
      have hin : i ≤ n := by rw [← hi, ← HLN.out]; exact List.countP_le_length
      have HI := hide (show insU x xs = xs.take i ++ x :: xs.drop i by rw [← hi]; exact ins_at HUP.out hcn)
      clear hi hcn
      go_wp2_with fail
      refine HS.out.mono ?_
      rintro e w3 ⟨rfl, qq, rfl⟩
      have na := hown.apart_blk hblk (by decide)
      have HIN := hide (insert_ok (vb := wc.heap.size) ((hown.drewN qq).alloc (.cells #[.int .i64 x] 3)) (by have := Blk.new (wc.drewN qq) 3 #[.int .i64 x]; exact this) (fun e => by have := (hown.blk e).2; omega) hin (by rw [World.size_alloc]; exact Nat.le_trans hzc (Nat.le_succ _)) (by omega))
      have pbq := (pb.drewN qq).alloc (.cells #[.int .i64 x] 3)
      have rbq := (rb.drewN qq).alloc (.cells #[.int .i64 x] 3)
      have gbq := (hblk.drewN qq).alloc (.cells #[.int .i64 x] 3)
      have kq : Below w.heap.size w ((wc.drewN qq).alloc (.cells #[.int .i64 x] 3)) := below_alloc (below_drewN hwc qq) _
      have hlow : ∀ j, j < w.heap.size → blockOf A' ≠ some j := fun j hj e => by have := (hown.blk e).1; have := hw1.size; omega
      have hga : blockOf A' ≠ some g := na
      have hra : blockOf A' ≠ some (w.heap.size + 1) := fun e => by have := (hown.blk e).1; omega
      have hpa : blockOf A' ≠ some w.heap.size := fun e => by have := (hown.blk e).1; omega
      clear hown na
      go_wp2_with fail
      refine HIN.out.mono ?_
      rintro e w3 ⟨A3, c3, rfl, own3, gr3⟩
      have kq3 : Below w.heap.size w w3 := ⟨by rw [gr3.os, kq.os], by rw [gr3.tape, kq.tape], by rw [gr3.output, kq.output], Nat.le_trans kq.size gr3.size, fun j hj => by
        rw [gr3.block j (Nat.lt_of_lt_of_le hj kq.size) (fun e => hlow j hj e.symm)]; exact kq.block j hj⟩
      have rb3 := rbq.grown gr3 hra
      have gb3 := gbq.grown gr3 hga
      have pb3 := pbq.grown gr3 hpa
      have na3 := own3.apart gb3 (by decide)
      have q0 := gb3.at_ (i := 0) (u := .int .i64 k) rfl
      have q1 := gb3.at_ (i := 1) (u := .slice A' n c') rfl
      have p0 := pb3.at_ (i := 0) (u := .int .i64 k) rfl
      have u1 := gb3.free 1
      have gb4 := gb3.set 1 (.slice A3 (n + 1) c3)
      have pb4 := pb3.far (p := ⟨g, 1, none⟩) (by dsimp only; omega) (.slice A3 (n + 1) c3)
      have rb4 := rb3.far (p := ⟨g, 1, none⟩) (by dsimp only; omega) (.slice A3 (n + 1) c3)
      have own4 := own3.far (p := ⟨g, 1, none⟩) na3 (.slice A3 (n + 1) c3)
      have kq4 := below_set kq3 (p := ⟨g, 1, none⟩) (by dsimp only; omega) (.slice A3 (n + 1) c3)
      have g0 := gb4.at_ (i := 0) (u := .int .i64 k) rfl
      have g1 := gb4.at_ (i := 1) (u := .slice A3 (n + 1) c3) rfl
      have pp0 := pb4.at_ (i := 0) (u := .int .i64 k) rfl
      have hcp := own3.cap.1
      obtain ⟨m, hmin, hmn, hmk⟩ : ∃ m : Nat, min ((n : Int) + 1) (k : Int) = (m : Int) ∧ m ≤ n + 1 ∧ m ≤ k ∧ (m = k ∨ m = n + 1) := ⟨min (n + 1) k, by omega, by omega, by omega, by omega⟩
      have HZL := hide own3.sl.ilen
      have HTK := hide (show (insU x xs).take k = (xs.take i ++ x :: xs.drop i).take m by
        rw [HI.out]
        rcases hmk.2 with e | e
        · rw [e]
        · have hz := HZL.out
          have hmk1 := hmk.1
          generalize xs.take i ++ x :: xs.drop i = zs at hz
          rw [List.take_of_length_le (show zs.length ≤ k by omega), List.take_of_length_le (show zs.length ≤ m by omega)])
      have mb : m ≤ 1000 := by omega
      clear hmk
      go_wp2_with fail
      refine (clone_ints A3 m c3 _ _ (own4.sl.itake hmn) (by omega)).mono ?_
      rintro e w5 ⟨v5, rfl, hb5, A5, c5, rfl, own5⟩
      have kq5 := below_on kq4 hb5
      have gb5 := gb4.below hb5 gb4.lt
      have rb5 := rb4.below hb5 rb4.lt
      have hg4 := gb4.lt
      clear q0 q1 p0 u1 g0 g1 pp0
      have q1 := gb5.at_ (i := 1) (u := .slice A3 (n + 1) c3) rfl
      have u1 := gb5.free 1
      have gb6 := gb5.set 1 (.slice A5 m c5)
      have rb6 := rb5.far (p := ⟨g, 1, none⟩) (by dsimp only; omega) (.slice A5 m c5)
      have own6 := own5.low (p := ⟨g, 1, none⟩) (by dsimp only; exact hg4) (.slice A5 m c5)
      have kq6 := below_set kq5 (p := ⟨g, 1, none⟩) (by dsimp only; omega) (.slice A5 m c5)
      have g0 := gb6.at_ (i := 0) (u := .int .i64 k) rfl
      have g1 := gb6.at_ (i := 1) (u := .slice A5 m c5) rfl
      have r0 := rb6.at_ (i := 0) (u := .int .i64 0) rfl
      have r1 := rb6.at_ (i := 1) (u := .slice none 0 0) rfl
      have v0 := rb6.free 0
      have v1 := rb6.free 1
      go_wp2_with fail
      clear q1 u1 g0 g1 r0 r1 v0 v1
      have hrb4 := rb4.lt
      have bf := (rb6.set 0 (.int .i64 k)).set 1 (.slice A5 m c5)
      have hbf := below_set (below_set kq6 (p := ⟨w.heap.size + 1, 0, none⟩) (by dsimp only; omega) (.int .i64 k)) (p := ⟨w.heap.size + 1, 1, none⟩) (by dsimp only; omega) (.slice A5 m c5)
      have of := ((own6.low (p := ⟨w.heap.size + 1, 0, none⟩) (by dsimp only; exact hrb4) (.int .i64 k)).low (p := ⟨w.heap.size + 1, 1, none⟩) (by dsimp only; exact hrb4) (.slice A5 m c5)).mono (show w.heap.size ≤ _ from Nat.le_of_lt (Nat.lt_trans (Nat.lt_succ_self _) hrb4))
      generalize (((w5.setCell ⟨g, 1, none⟩ (.slice A5 m c5)).setCell ⟨w.heap.size + 1, 0, none⟩ (.int .i64 k)).setCell ⟨w.heap.size + 1, 1, none⟩ (.slice A5 m c5)) = wf at bf hbf of ⊢
      have z0 := bf.at_ (i := 0) (u := .int .i64 k) rfl
      have z1 := bf.at_ (i := 1) (u := .slice A5 m c5) rfl
      refine bodyPost_ret (v := .tuple #[.agg #[.int .i64 k, .slice A5 m c5], .int .i64 0]) (by simp [results, Tryz.results189, go_sem, z0, z1]) rfl ⟨A5, m, c5, rfl, ?_, hbf⟩
      rw [HTK.out]
      exact of
    · have HI := hide (show (insU x xs).take k = xs by
        rw [insU_there HUP.out (by simpa using hcn), List.take_of_length_le (by rw [HLN.out]; exact_mod_cast hnk)])
      have HS := hide (bs_ok hown HUP.out (by omega) hi hcn)
      clear hi hcn
      go_wp2_with fail
      refine HS.out.mono ?_
      rintro e w3 ⟨rfl, qq, rfl⟩
      have r0 := (rb.drewN qq).at_ (i := 0) (u := .int .i64 0) rfl
      have r1 := (rb.drewN qq).at_ (i := 1) (u := .slice none 0 0) rfl
      have u0 := (rb.drewN qq).free 0
      have u1 := (rb.drewN qq).free 1
      have q0 := (hblk.drewN qq).at_ (i := 0) (u := .int .i64 k) rfl
      have q1 := (hblk.drewN qq).at_ (i := 1) (u := .slice A' n c') rfl
      go_wp2_with fail
      clear r0 r1 u0 u1 q0 q1
      have bf := ((rb.drewN qq).set 0 (.int .i64 k)).set 1 (.slice A' n c')
      have hbf := below_set (below_set (below_drewN hwc qq) (p := ⟨w.heap.size + 1, 0, none⟩) (by dsimp only; omega) (.int .i64 k)) (p := ⟨w.heap.size + 1, 1, none⟩) (by dsimp only; omega) (.slice A' n c')
      have of := (((hown.drewN qq).low (p := ⟨w.heap.size + 1, 0, none⟩) (by dsimp only; omega) (.int .i64 k)).low (p := ⟨w.heap.size + 1, 1, none⟩) (by dsimp only; omega) (.slice A' n c')).mono hw1.size
      generalize (((wc.drewN qq).setCell ⟨w.heap.size + 1, 0, none⟩ (.int .i64 k)).setCell ⟨w.heap.size + 1, 1, none⟩ (.slice A' n c')) = wf at bf hbf of ⊢
      have z0 := bf.at_ (i := 0) (u := .int .i64 k) rfl
      have z1 := bf.at_ (i := 1) (u := .slice A' n c') rfl
      refine bodyPost_ret (v := .tuple #[.agg #[.int .i64 k, .slice A' n c'], .int .i64 0]) (by simp [results, Tryz.results189, go_sem, z0, z1]) rfl ⟨A', n, c', rfl, ?_, hbf⟩
      rw [HI.out]
      exact of
end
end Go.Proofs.YtjpbjghdplbdcaaGreatDoor
end
