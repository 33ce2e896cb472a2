/- Proves the parts of the claim that its last text joins: Few6. Conditions: those that each theorem names. -/
import Derived.Test.YtjpbjghdplbdcaaGreatDoorM22
import Derived.Test.YtjpbjghdplbdcaaGreatDoorM27
section
namespace Go.Proofs.YtjpbjghdplbdcaaGreatDoor
open Go.RowKit
section
variable {A : Option Addr} {n c : Nat} {l : List Ct} {w : World} {K L key v : Int}
set_option maxRecDepth 20000 in
set_option maxHeartbeats 6400000 in
theorem fput_small (h : Sp w A n c l) (hok : FwOk K L n l) (h0 : fwErr K L n l = 0) (hv1 : 1 ≤ v) (hv2 : v ≤ 1000000000000) (hlen : ((addC key v l).length : Int) ≤ K) :
    Calls Tryz.prog 193 #[.agg #[.int .i64 K, .int .i64 L, .slice A n c], .int .i64 key, .int .i64 v] w fun e w' => ∃ E K' L' A' n' c' l', e = .returned (.tuple #[.agg #[.int .i64 K', .int .i64 L', .slice A' n' c'], .int .i64 E]) ∧ Own w' w.heap.size 128 2 A' n' c' (prs l') ∧ finC K L (addC key v l) = (E, K', L', l') ∧ Below w.heap.size w w' := by
  obtain ⟨p0, r0⟩ := fewTwo w #[.int .i64 K, .int .i64 L, .slice A n c]
  have hb0 : Below w.heap.size w ((w.alloc (.cells #[.int .i64 K, .int .i64 L, .slice A n c] 42)).alloc (.cells noFew 42)) := by repeat' (first | assumption | with_reducible exact Below.refl _ _ | with_reducible apply Below.drew | with_reducible apply below_drewN | with_reducible apply below_alloc | with_reducible refine below_set ?_ ?_ _ | (simp only [World.size_alloc, World.heap_drewN]; omega) | (simp; omega))
  have CC := hide (fcheck_any K L (h.on hb0))
  rw [h0] at CC
  have hn16 : n ≤ 16 := by have := hok.nk; have := hok.k2; omega
  have hcb : ∀ p ∈ l, 0 ≤ p.2 ∧ p.2 ≤ 4000000000000000000 := fun p hp => by have := hok.cnt p hp; omega
  have CA := hide (fun w' (hb : Below w.heap.size w w') => added_any (key := key) (v := v) (h.on hb) hok.up hcb (by omega) hv2 (by omega))
  have hal := addC_len key v l
  rw [h.plen] at hal
  have HOK := hide hok
  obtain ⟨M, hM⟩ : ∃ M, addC key v l = M := ⟨_, rfl⟩
  have HM := hide hM
  rw [hM] at CA hal hlen
  obtain ⟨N, hN⟩ : ∃ N, M.length = N := ⟨_, rfl⟩
  rw [hN] at CA hal hlen
  have HN := hide hN
  clear hok h0 hM hN hcb
  go_enter Tryz.func193, Tryz.ntmps193
  go_wp2_with fail
  refine CC.out.mono ?_
  rintro e w1 ⟨rfl, b1⟩
  have r1 := r0.below b1 r0.lt
  have p1 := p0.below b1 p0.lt
  have k1 := below_on hb0 b1
  have l0 := p1.lt
  have lr := r1.lt
  have f0 := p1.at_ (i := 0) (u := .int .i64 K) rfl
  have f1 := p1.at_ (i := 1) (u := .int .i64 L) rfl
  have f2 := p1.at_ (i := 2) (u := .slice A n c) rfl
  have t1 : ¬ v < 1 := by omega
  have t2 : ¬ 1000000000000 < v := by omega
  clear p0 r0 b1 hb0 CC
  go_upto_region 6 with fail
  go_cut [9] (fun s9 wx => ∃ g A' c', s9 = .pointer (some ⟨g, 0, none⟩) ∧ Blk wx g 42 #[.int .i64 K, .int .i64 L, .slice A' N c'] ∧ Own wx w1.heap.size 128 2 A' N c' (prs M) ∧ w1.heap.size ≤ g ∧ Below w1.heap.size w1 wx)
  case first =>
    go_region_held3 (fun w' => Below w1.heap.size w1 w' ∧ w'.cell? ⟨w.heap.size, 0, none⟩ = some (.int .i64 K) ∧ w'.cell? ⟨w.heap.size, 1, none⟩ = some (.int .i64 L) ∧ w'.cell? ⟨w.heap.size, 2, none⟩ = some (.slice A n c)) ((refine keep3 l0 f0 f1 f2 ?_; repeat' (first | assumption | with_reducible exact Below.refl _ _ | with_reducible apply Below.drew | with_reducible apply below_drewN | with_reducible apply below_alloc | with_reducible refine below_set ?_ ?_ _ | (simp only [World.size_alloc, World.heap_drewN]; omega) | (simp; omega))))
      (first | (go_at_call 243; refine (CA.out _ (below_on k1 (by repeat' (first | assumption | with_reducible exact Below.refl _ _ | with_reducible apply Below.drew | with_reducible apply below_drewN | with_reducible apply below_alloc | with_reducible refine below_set ?_ ?_ _ | (simp only [World.size_alloc, World.heap_drewN]; omega) | (simp; omega))))).mono ?_; rintro e w2 ⟨A', c', rfl, hown, hb2⟩; have hw2 : Below w1.heap.size w1 w2 := below_on (by repeat' (first | assumption | with_reducible exact Below.refl _ _ | with_reducible apply Below.drew | with_reducible apply below_drewN | with_reducible apply below_alloc | with_reducible refine below_set ?_ ?_ _ | (simp only [World.size_alloc, World.heap_drewN]; omega) | (simp; omega))) hb2; have hz2 := hw2.size; obtain ⟨hc2, hf2⟩ := bcell hb2))
    all_goals go_wp2_with fail
    · go_meet
      refine ⟨w2.heap.size, A', c', rfl, ?_, ?_, hz2, ?_⟩
      · exact Blk.new _ _ _
      · exact (hown.alloc _).mono (by simp)
      · repeat' (first | assumption | with_reducible exact Below.refl _ _ | with_reducible apply Below.drew | with_reducible apply below_drewN | with_reducible apply below_alloc | with_reducible refine below_set ?_ ?_ _ | (simp only [World.size_alloc, World.heap_drewN]; omega) | (simp; omega))
    · go_meet
      refine ⟨w1.heap.size, A', c', rfl, ?_, ?_, Nat.le_refl _, by repeat' (first | assumption | with_reducible exact Below.refl _ _ | with_reducible apply Below.drew | with_reducible apply below_drewN | with_reducible apply below_alloc | with_reducible refine below_set ?_ ?_ _ | (simp only [World.size_alloc, World.heap_drewN]; omega) | (simp; omega))⟩
      · have hb := (((Blk.new w1 42 #[.int .i64 0, .int .i64 0, .slice none 0 0]).drew.below hb2 (by simp)).set 0 (.int .i64 K) |>.set 1 (.int .i64 L)) |>.set 2 (.slice A' N c')
        simpa using hb
      · exact (((hown.low (by simp) _).low (by simp) _).low (by simp) _).mono (by simp)
  case rest =>
    obtain ⟨g, A', c', rfl, hblk, hown, hg, hbc⟩ := hcut
    have hwc : Below w.heap.size w wc := below_on k1 hbc
    have hzc := hbc.size
    have rb := r1.below hbc lr
    have hgl := hblk.lt
    have q0 := hblk.at_ (i := 0) (u := .int .i64 K) rfl
    have q1 := hblk.at_ (i := 1) (u := .int .i64 L) rfl
    have q2 := hblk.at_ (i := 2) (u := .slice A' N c') rfl
    have ng1 : ¬ w.heap.size + 1 = g := by omega
    have ng2 : ¬ g = w.heap.size + 1 := by omega
    obtain ⟨wo, rfl⟩ : ∃ wo : World, wo = wc := ⟨_, rfl⟩
    clear f0 f1 f2 p1 r1 CA
    have t3 : ¬ K < (N : Int) := by omega
    have CK := hide (fcheck_any K (L) hown.sl)
    by_cases hE : fwErr K (L) N M = 0
    · rw [hE] at CK
      have HE := hide hE
      clear hE
      go_wp2_with fail
      refine CK.out.mono ?_
      rintro e w9 ⟨rfl, b9⟩
      have r9 := rb.below b9 rb.lt
      have g9 := hblk.below b9 hblk.lt
      have s9 := (hown.sl).on b9
      have k9 := below_on hwc b9
      have z0 := r9.at_ (i := 0) (u := .int .i64 0) rfl
      have z1 := r9.at_ (i := 1) (u := .int .i64 0) rfl
      have z2 := r9.at_ (i := 2) (u := .slice none 0 0) rfl
      have y0 := r9.free 0
      have y1 := r9.free 1
      have y2 := r9.free 2
      have x0 := g9.at_ (i := 0) (u := .int .i64 K) rfl
      have x1 := g9.at_ (i := 1) (u := .int .i64 (L)) rfl
      have x2 := g9.at_ (i := 2) (u := .slice A' N c') rfl
      clear q0 q1 q2 hblk rb CK
      go_wp2_with fail
      have bf : Blk (((w9.setCell ⟨w.heap.size + 1, 0, none⟩ (.int .i64 K)).setCell ⟨w.heap.size + 1, 1, none⟩ (.int .i64 (L))).setCell ⟨w.heap.size + 1, 2, none⟩ (.slice A' N c')) (w.heap.size + 1) 42 #[.int .i64 K, .int .i64 (L), .slice A' N c'] := by
        simpa [noFew] using ((r9.set 0 (.int .i64 K)).set 1 (.int .i64 (L))).set 2 (.slice A' N c')
      have hbf : Below w.heap.size w (((w9.setCell ⟨w.heap.size + 1, 0, none⟩ (.int .i64 K)).setCell ⟨w.heap.size + 1, 1, none⟩ (.int .i64 (L))).setCell ⟨w.heap.size + 1, 2, none⟩ (.slice A' N c')) :=
        below_set (below_set (below_set k9 (by dsimp only; omega) _) (by dsimp only; omega) _) (by dsimp only; omega) _
      have sf : Own (((w9.setCell ⟨w.heap.size + 1, 0, none⟩ (.int .i64 K)).setCell ⟨w.heap.size + 1, 1, none⟩ (.int .i64 (L))).setCell ⟨w.heap.size + 1, 2, none⟩ (.slice A' N c')) w.heap.size 128 2 A' N c' (prs M) := by
        have o9 := hown.below b9 (Nat.le_refl _)
        have hne : ∀ g', A' = some ⟨g', 0, none⟩ → g' ≠ w.heap.size + 1 := fun g' e1 => by have := (o9.blk (g := g') (by rw [e1]; rfl)).1; omega
        exact (((o9.far (p := ⟨w.heap.size + 1, 0, none⟩) hne _).far (p := ⟨w.heap.size + 1, 1, none⟩) hne _).far (p := ⟨w.heap.size + 1, 2, none⟩) hne _).mono (by first | omega | (have := k1.size; omega))
      clear z0 z1 z2 y0 y1 y2 x0 x1 x2
      generalize (((w9.setCell ⟨w.heap.size + 1, 0, none⟩ (.int .i64 K)).setCell ⟨w.heap.size + 1, 1, none⟩ (.int .i64 (L))).setCell ⟨w.heap.size + 1, 2, none⟩ (.slice A' N c')) = wf at bf hbf sf ⊢
      have z0 := bf.at_ (i := 0) (u := .int .i64 K) rfl
      have z1 := bf.at_ (i := 1) (u := .int .i64 (L)) rfl
      have z2 := bf.at_ (i := 2) (u := .slice A' N c') rfl
      exact bodyPost_ret (v := .tuple #[.agg #[.int .i64 K, .int .i64 (L), .slice A' N c'], .int .i64 0]) (by simp [results, Tryz.results193, go_sem, z0, z1, z2]) rfl ⟨0, K, L, A', N, c', M, rfl, sf, by rw [HM.out]; exact finC_yes HN.out HE.out, hbf⟩
    · obtain ⟨E, hEE⟩ : ∃ E, fwErr K (L) N M = E := ⟨_, rfl⟩
      rw [hEE] at CK hE
      have t9 : (E != 0) = true := by simpa using hE
      have HE := hide (show fwErr K (L) N M ≠ 0 by rw [hEE]; exact hE)
      clear hE hEE
      go_wp2_with fail
      refine CK.out.mono ?_
      rintro e w9 ⟨rfl, b9⟩
      have r9 := rb.below b9 rb.lt
      have k9 := below_on hwc b9
      have z0 := r9.at_ (i := 0) (u := .int .i64 0) rfl
      have z1 := r9.at_ (i := 1) (u := .int .i64 0) rfl
      have z2 := r9.at_ (i := 2) (u := .slice none 0 0) rfl
      have y0 := r9.free 0
      have y1 := r9.free 1
      have y2 := r9.free 2
      clear q0 q1 q2 hblk rb b9 CK
      go_wp2_with fail
      have bf : Blk (((w9.setCell ⟨w.heap.size + 1, 0, none⟩ (.int .i64 0)).setCell ⟨w.heap.size + 1, 1, none⟩ (.int .i64 0)).setCell ⟨w.heap.size + 1, 2, none⟩ (.slice none 0 0)) (w.heap.size + 1) 42 noFew := by
        simpa [noFew] using ((r9.set 0 (.int .i64 0)).set 1 (.int .i64 0)).set 2 (.slice none 0 0)
      have hbf : Below w.heap.size w (((w9.setCell ⟨w.heap.size + 1, 0, none⟩ (.int .i64 0)).setCell ⟨w.heap.size + 1, 1, none⟩ (.int .i64 0)).setCell ⟨w.heap.size + 1, 2, none⟩ (.slice none 0 0)) :=
        below_set (below_set (below_set k9 (by dsimp only; omega) _) (by dsimp only; omega) _) (by dsimp only; omega) _
      clear z0 z1 z2 y0 y1 y2
      generalize (((w9.setCell ⟨w.heap.size + 1, 0, none⟩ (.int .i64 0)).setCell ⟨w.heap.size + 1, 1, none⟩ (.int .i64 0)).setCell ⟨w.heap.size + 1, 2, none⟩ (.slice none 0 0)) = wf at bf hbf ⊢
      have z0 := bf.at_ (i := 0) (u := .int .i64 0) rfl
      have z1 := bf.at_ (i := 1) (u := .int .i64 0) rfl
      have z2 := bf.at_ (i := 2) (u := .slice none 0 0) rfl
      exact bodyPost_ret (v := .tuple #[.agg noFew, .int .i64 2]) (by simp [results, Tryz.results193, go_sem, z0, z1, z2]) rfl ⟨2, 0, 0, none, 0, 0, [], rfl, Own.nil _ _ _ _, by rw [HM.out]; exact finC_no HN.out HE.out, hbf⟩
end
end Go.Proofs.YtjpbjghdplbdcaaGreatDoor
end
