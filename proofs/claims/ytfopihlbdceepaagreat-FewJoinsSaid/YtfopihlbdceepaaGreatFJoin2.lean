/-
  few.Join that stays within K: the walk. Conditions: the counters may be.
-/
import Derived.Test.YtfopihlbdceepaaGreatFJoin
namespace Go.Proofs.YtfopihlbdceepaaGreat
open Go.RowKit Go.Shelf Go.Maps
set_option linter.unusedVariables false

section
variable {A A2 : Option Addr} {n c n2 c2 k : Nat} {l m : List Ct} {w : World} {L L2 : Int}
set_option maxRecDepth 100000 in
set_option maxHeartbeats 12800000 in
theorem fjoin_small (h : Sp w A n c l) (hE : fwErr (k : Int) L n l = 0) (h2 : Sp w A2 n2 c2 m) (hE2 : fwErr (k : Int) L2 n2 m = 0) (hct : CtOk (l ++ m)) (hlen : (allC (l ++ m)).length ≤ k) :
    Calls Tryz.prog 4 #[.agg #[.int .i64 k, .int .i64 L, .slice A n c], .agg #[.int .i64 k, .int .i64 L2, .slice A2 n2 c2]] w fun e w' => ∃ E K' L' A' n' c' l', e = .returned (.tuple #[.agg #[.int .i64 K', .int .i64 L', .slice A' n' c'], .int .i64 E]) ∧ Sp w' A' n' c' l' ∧ JoinedC (k : Int) (L + L2) (allC (l ++ m)) (E, K', L', l') ∧ Below w.heap.size w w' := by
  have hok := fwErr_ok h.plen hE
  have hok2 := fwErr_ok h2.plen hE2
  have hk1 : 1 ≤ k := by have := hok.k1; omega
  have hk2 : k ≤ 16 := by have := hok.k2; omega
  have hn1 : n ≤ 16 := by have := hok.nk; omega
  have hn2 : n2 ≤ 16 := by have := hok2.nk; omega
  have hL1 := hok.l1
  have hL2 := hok.l2
  have hL3 := hok2.l1
  have hL4 := hok2.l2
  have HBD := hide (allC_bnd hct)
  have HLL := hide h.plen
  have HLM := hide h2.plen
  have HS0 := hide (show allC ((l ++ m).take (n + 0)) = l by rw [Nat.add_zero, ← h.plen, List.take_left, allC_self hok.up])
  have HFIN := hide (show allC ((l ++ m).take (n + n2)) = allC (l ++ m) by rw [← h.plen, ← h2.plen, ← List.length_append, List.take_length])
  have HE := hide hE
  have HE2 := hide hE2
  have HCND := hide hlen
  have t1 : ((k : Int) != (k : Int)) = false := by simp
  have ez : IntKind.i64.wrap (L + L2) = L + L2 := IntWalk.i64_in _ (by omega)
  clear hE hE2 hok hok2 hct hlen
  obtain ⟨p0, g0, r0⟩ := fewThree w #[.int .i64 (k : Int), .int .i64 L, .slice A n c] #[.int .i64 (k : Int), .int .i64 L2, .slice A2 n2 c2]
  have hb0 : Below w.heap.size w (((w.alloc (.cells #[.int .i64 (k : Int), .int .i64 L, .slice A n c] 24)).alloc (.cells #[.int .i64 (k : Int), .int .i64 L2, .slice A2 n2 c2] 24)).alloc (.cells noFew 24)) := by repeat' (first | assumption | with_reducible exact Below.refl _ _ | with_reducible apply Below.drew | with_reducible apply below_drewN | with_reducible apply below_alloc | with_reducible refine below_set ?_ ?_ _ | (simp only [World.size_alloc, World.heap_drewN]; omega) | (simp; omega))
  go_enter Tryz.func4, Tryz.ntmps4
  go_wp2_with fail
  refine (fcheck_is (h.on hb0) HE.out).mono ?_
  rintro e w1 ⟨rfl, b1⟩
  have r1 := r0.below b1 r0.lt
  have p1 := p0.below b1 p0.lt
  have g1 := g0.below b1 g0.lt
  have k1 := below_on hb0 b1
  clear r0 p0 g0 b1 hb0
  have d0 := g1.at_ (i := 0) (u := .int .i64 (k : Int)) rfl
  have d1 := g1.at_ (i := 1) (u := .int .i64 L2) rfl
  have d2 := g1.at_ (i := 2) (u := .slice A2 n2 c2) rfl
  go_wp2_with fail
  refine (fcheck_is (h2.on k1) HE2.out).mono ?_
  rintro e w2 ⟨rfl, b2⟩
  clear d0 d1 d2
  have r2 := r1.below b2 r1.lt
  have p2 := p1.below b2 p1.lt
  have g2 := g1.below b2 g1.lt
  have kw2 := below_on k1 b2
  clear r1 p1 g1 b2 k1
  have f0 := p2.at_ (i := 0) (u := .int .i64 (k : Int)) rfl
  have f2 := p2.at_ (i := 2) (u := .slice A n c) rfl
  have e0 := g2.at_ (i := 0) (u := .int .i64 (k : Int)) rfl
  have e2 := g2.at_ (i := 2) (u := .slice A2 n2 c2) rfl
  go_wp2_with fail
  go_loopw [8, 39] (fun vl i wr => ∃ (j N : Nat) (A' : Option Addr) (c' : Nat), j ≤ n2 ∧ i = .int .i64 j ∧ vl = .slice A' N c' ∧ N ≤ n + j ∧ Sp wr A' N c' (allC ((l ++ m).take (n + j))) ∧ Below w2.heap.size w2 wr) (fun _ i _ => n2 - (intOf i).toNat)
  case atStart => exact ⟨0, n, A, c, Nat.zero_le _, rfl, rfl, Nat.le_refl _, by rw [HS0.out]; exact h.on (below_on kw2 (by repeat' (first | assumption | with_reducible exact Below.refl _ _ | with_reducible apply Below.drew | with_reducible apply below_drewN | with_reducible apply below_alloc | with_reducible refine below_set ?_ ?_ _ | (simp only [World.size_alloc, World.heap_drewN]; omega) | (simp; omega)))), by repeat' (first | assumption | with_reducible exact Below.refl _ _ | with_reducible apply Below.drew | with_reducible apply below_drewN | with_reducible apply below_alloc | with_reducible refine below_set ?_ ?_ _ | (simp only [World.size_alloc, World.heap_drewN]; omega) | (simp; omega))⟩
  case round =>
    obtain ⟨j, N, A', c', hj, rfl, rfl, hNj, hs, hb⟩ := hrel
    by_cases hlt : j < n2
    · obtain ⟨ad, x, rfl, hbk, hx, hc0, hc1⟩ := (h2.on (below_on kw2 hb)).pcell hlt
      have hx2 : (l ++ m)[n + j]? = some x := by rw [List.getElem?_append_right (by have := HLL.out; omega), HLL.out, Nat.add_sub_cancel_left]; exact hx
      have HT := hide (allC_take hx2)
      have HU := hide (allC_up ((l ++ m).take (n + j)))
      have HB := hide (show ∀ p ∈ allC ((l ++ m).take (n + j)), 0 ≤ p.2 ∧ p.2 ≤ 4000000000000000000 from fun p hp => by
        have := HBD.out (n + j) (by rw [List.length_append, HLL.out, HLM.out]; omega) p hp
        have h5 : ((n + j : Nat) : Int) * 1000000000000 ≤ 40 * 1000000000000 := Int.mul_le_mul_of_nonneg_right (by omega) (by omega)
        omega)
      have HX := hide (show 0 ≤ x.2 ∧ x.2 ≤ 1000000000000 from by
        have := (fwErr_ok HLM.out HE2.out).cnt x (List.mem_of_getElem? hx); omega)
      clear hx hx2
      obtain ⟨M, hM⟩ : ∃ M, allC ((l ++ m).take (n + j)) = M := ⟨_, rfl⟩
      rw [hM] at HT HU HB hs
      clear hM
      obtain ⟨x1, x2⟩ := x
      dsimp only at hc0 hc1
      have hal := addC_len x1 x2 M
      rw [hs.plen] at hal
      have bq := Blk.new wr 40 #[.int .i64 x1, .int .i64 x2]
      have q0 := bq.at_ (i := 0) (u := .int .i64 x1) rfl
      have q1 := bq.at_ (i := 1) (u := .int .i64 x2) rfl
      have hb2 := below_alloc hb (.cells #[.int .i64 x1, .int .i64 x2] 40)
      have hs2 := hs.on (below_alloc (Below.refl wr.heap.size wr) (.cells #[.int .i64 x1, .int .i64 x2] 40))
      clear bq hs f0 f2 e0 e2
      go_wp2_with fail
      refine (added_any (key := x1) (v := x2) (hs2.on (by repeat' (first | assumption | with_reducible exact Below.refl _ _ | with_reducible apply Below.drew | with_reducible apply below_drewN | with_reducible apply below_alloc | with_reducible refine below_set ?_ ?_ _ | (simp only [World.size_alloc, World.heap_drewN]; omega) | (simp; omega)))) HU.out HB.out HX.out.1 HX.out.2 (by omega)).mono ?_
      rintro e w5 ⟨A5, c5, rfl, own5, hb5⟩
      go_wp2_with fail
      go_roundw
      case rel => exact ⟨j + 1, _, A5, c5, by omega, by go_num, rfl, by omega, by rw [← Nat.add_assoc, HT.out]; exact own5.sl, below_on hb2 hb5⟩
      case measure => simp [intOf]; omega
    · obtain rfl : j = n2 := by omega
      rw [HFIN.out] at hs
      obtain ⟨M, hM⟩ : ∃ M, allC (l ++ m) = M := ⟨_, rfl⟩
      have HM := hide hM
      rw [hM] at hs HCND
      have HBM := hide (show ∀ p ∈ M, 1 ≤ p.2 ∧ p.2 ≤ 40 * 1000000000000 from fun p hp => by
        have := HBD.out (n + j) (by rw [List.length_append, HLL.out, HLM.out]; omega) p (by rw [HFIN.out, hM]; exact hp)
        have h5 : ((n + j : Nat) : Int) * 1000000000000 ≤ 40 * 1000000000000 := Int.mul_le_mul_of_nonneg_right (by omega) (by omega)
        omega)
      clear hM
      have HN := hide hs.plen
      have hlen : N ≤ k := by have := HCND.out; rw [HN.out] at this; exact this
      have p3 := p2.below hb p2.lt
      have g3 := g2.below hb g2.lt
      have r3 := r2.below hb r2.lt
      have kw3 := below_on kw2 hb
      have hpl := p3.lt
      have hpg := g3.lt
      have x0 := p3.at_ (i := 0) (u := .int .i64 (k : Int)) rfl
      have x1 := p3.at_ (i := 1) (u := .int .i64 L) rfl
      have x2 := g3.at_ (i := 1) (u := .int .i64 L2) rfl
      clear f0 f2 e0 e2 p2 g2 r2
      obtain ⟨w3, rfl⟩ : ∃ w3 : World, w3 = wr := ⟨_, rfl⟩
      go_wp2_with fail
      refine anyTill.begin (S := Till (fun w' => w'.cell? ⟨w.heap.size, 0, none⟩ = some (.int .i64 (k : Int)) ∧ w'.cell? ⟨w.heap.size, 1, none⟩ = some (.int .i64 L) ∧ w'.cell? ⟨w.heap.size + 1, 1, none⟩ = some (.int .i64 L2)) (fun _ => True) []) (by kernel_rfl) ?_
      refine joinreg_start hs (by omega) ez hpl hpg x0 x1 x2 (fun _ _ d _ _ h => by cases d <;> exact h) ?_ (by rfl) (by kernel_rfl) (by rfl) (by repeat' (first | assumption | with_reducible exact Below.refl _ _ | with_reducible apply Below.drew | with_reducible apply below_drewN | with_reducible apply below_alloc | with_reducible refine below_set ?_ ?_ _ | (simp only [World.size_alloc, World.heap_drewN]; omega) | (simp; omega)))
      intro AC cC g wo hblk hown hgy kS
      have hwc : Below w.heap.size w wo := below_on kw3 kS
      have rb := r3.below kS r3.lt
      have pb := p3.below kS p3.lt
      have hgl := hblk.lt
      have hz3 := r3.lt
      have hgn : w.heap.size + 2 < g := by omega
      have hzg : w.heap.size + 3 ≤ w3.heap.size := by omega
      have ng1 : ¬ w.heap.size + 2 = g := by omega
      have ng2 : ¬ g = w.heap.size + 2 := by omega
      have ng3 : ¬ w.heap.size = g := by omega
      have hs4 := hs.on kS
      have u0 := pb.at_ (i := 0) (u := .int .i64 (k : Int)) rfl
      clear x0 x1 x2 p3 g3 r3 hpl hpg
      have t3 : ¬ (k : Int) < (N : Int) := by omega
      have q0 := hblk.at_ (i := 0) (u := .int .i64 (k : Int)) rfl
      have q1 := hblk.at_ (i := 1) (u := .int .i64 (L + L2)) rfl
      have q2 := hblk.at_ (i := 2) (u := .slice AC N cC) rfl
      obtain ⟨K, hKk⟩ : ∃ K : Int, (k : Int) = K := ⟨_, rfl⟩
      have HK := hide hKk
      rw [hKk] at t3 q0 hblk u0 pb t1 ⊢
      clear hKk
      have CK := hide (fcheck_any K (L + L2) hown.sl)
      by_cases hE : fwErr K (L + L2) N M = 0
      · rw [hE] at CK
        have HE := hide hE
        clear hE
        go_wp2_with fail
        refine CK.out.mono ?_
        rintro e w9 ⟨rfl, b9⟩
        have r9 := rb.below b9 rb.lt
        have g9 := hblk.below b9 hblk.lt
        have s9 := (hown.sl).on b9
        have k9 := below_on hwc b9
        have z0 := r9.at_ (i := 0) (u := .int .i64 0) rfl
        have z1 := r9.at_ (i := 1) (u := .int .i64 0) rfl
        have z2 := r9.at_ (i := 2) (u := .slice none 0 0) rfl
        have y0 := r9.free 0
        have y1 := r9.free 1
        have y2 := r9.free 2
        have x0 := g9.at_ (i := 0) (u := .int .i64 K) rfl
        have x1 := g9.at_ (i := 1) (u := .int .i64 (L + L2)) rfl
        have x2 := g9.at_ (i := 2) (u := .slice AC N cC) rfl
        clear q0 q1 q2 hblk rb CK
        go_wp2_with fail
        have bf : Blk (((w9.setCell ⟨w.heap.size + 2, 0, none⟩ (.int .i64 K)).setCell ⟨w.heap.size + 2, 1, none⟩ (.int .i64 (L + L2))).setCell ⟨w.heap.size + 2, 2, none⟩ (.slice AC N cC)) (w.heap.size + 2) 24 #[.int .i64 K, .int .i64 (L + L2), .slice AC N cC] := by
          simpa [noFew] using ((r9.set 0 (.int .i64 K)).set 1 (.int .i64 (L + L2))).set 2 (.slice AC N cC)
        have hbf : Below w.heap.size w (((w9.setCell ⟨w.heap.size + 2, 0, none⟩ (.int .i64 K)).setCell ⟨w.heap.size + 2, 1, none⟩ (.int .i64 (L + L2))).setCell ⟨w.heap.size + 2, 2, none⟩ (.slice AC N cC)) :=
          below_set (below_set (below_set k9 (by dsimp only; omega) _) (by dsimp only; omega) _) (by dsimp only; omega) _
        have sf : Sp (((w9.setCell ⟨w.heap.size + 2, 0, none⟩ (.int .i64 K)).setCell ⟨w.heap.size + 2, 1, none⟩ (.int .i64 (L + L2))).setCell ⟨w.heap.size + 2, 2, none⟩ (.slice AC N cC)) AC N cC M := by
          have o9 := hown.below b9 (Nat.le_refl _)
          have hne : ∀ g', AC = some ⟨g', 0, none⟩ → g' ≠ w.heap.size + 2 := fun g' e1 => by have := (o9.blk (g := g') (by rw [e1]; rfl)).1; omega
          exact (((o9.far (p := ⟨w.heap.size + 2, 0, none⟩) hne _).far (p := ⟨w.heap.size + 2, 1, none⟩) hne _).far (p := ⟨w.heap.size + 2, 2, none⟩) hne _).sl
        clear z0 z1 z2 y0 y1 y2 x0 x1 x2
        generalize (((w9.setCell ⟨w.heap.size + 2, 0, none⟩ (.int .i64 K)).setCell ⟨w.heap.size + 2, 1, none⟩ (.int .i64 (L + L2))).setCell ⟨w.heap.size + 2, 2, none⟩ (.slice AC N cC)) = wf at bf hbf sf ⊢
        have z0 := bf.at_ (i := 0) (u := .int .i64 K) rfl
        have z1 := bf.at_ (i := 1) (u := .int .i64 (L + L2)) rfl
        have z2 := bf.at_ (i := 2) (u := .slice AC N cC) rfl
        exact bodyPost_ret (v := .tuple #[.agg #[.int .i64 K, .int .i64 (L + L2), .slice AC N cC], .int .i64 0]) (by simp [results, Tryz.results4, go_sem, z0, z1, z2]) rfl ⟨0, K, L + L2, AC, N, cC, M, rfl, sf, by rw [HM.out, HK.out]; unfold JoinedC; rw [if_pos (by rw [HN.out]; omega)]; exact finC_yes HN.out HE.out, hbf⟩
      · obtain ⟨E, hEE⟩ : ∃ E, fwErr K (L + L2) N M = E := ⟨_, rfl⟩
        rw [hEE] at CK hE
        have t9 : (E != 0) = true := by simpa using hE
        have HE := hide (show fwErr K (L + L2) N M ≠ 0 by rw [hEE]; exact hE)
        clear hE hEE
        go_wp2_with fail
        refine CK.out.mono ?_
        rintro e w9 ⟨rfl, b9⟩
        have r9 := rb.below b9 rb.lt
        have k9 := below_on hwc b9
        have z0 := r9.at_ (i := 0) (u := .int .i64 0) rfl
        have z1 := r9.at_ (i := 1) (u := .int .i64 0) rfl
        have z2 := r9.at_ (i := 2) (u := .slice none 0 0) rfl
        have y0 := r9.free 0
        have y1 := r9.free 1
        have y2 := r9.free 2
        clear q0 q1 q2 hblk rb b9 CK
        go_wp2_with fail
        have bf : Blk (((w9.setCell ⟨w.heap.size + 2, 0, none⟩ (.int .i64 0)).setCell ⟨w.heap.size + 2, 1, none⟩ (.int .i64 0)).setCell ⟨w.heap.size + 2, 2, none⟩ (.slice none 0 0)) (w.heap.size + 2) 24 noFew := by
          simpa [noFew] using ((r9.set 0 (.int .i64 0)).set 1 (.int .i64 0)).set 2 (.slice none 0 0)
        have hbf : Below w.heap.size w (((w9.setCell ⟨w.heap.size + 2, 0, none⟩ (.int .i64 0)).setCell ⟨w.heap.size + 2, 1, none⟩ (.int .i64 0)).setCell ⟨w.heap.size + 2, 2, none⟩ (.slice none 0 0)) :=
          below_set (below_set (below_set k9 (by dsimp only; omega) _) (by dsimp only; omega) _) (by dsimp only; omega) _
        clear z0 z1 z2 y0 y1 y2
        generalize (((w9.setCell ⟨w.heap.size + 2, 0, none⟩ (.int .i64 0)).setCell ⟨w.heap.size + 2, 1, none⟩ (.int .i64 0)).setCell ⟨w.heap.size + 2, 2, none⟩ (.slice none 0 0)) = wf at bf hbf ⊢
        have z0 := bf.at_ (i := 0) (u := .int .i64 0) rfl
        have z1 := bf.at_ (i := 1) (u := .int .i64 0) rfl
        have z2 := bf.at_ (i := 2) (u := .slice none 0 0) rfl
        exact bodyPost_ret (v := .tuple #[.agg noFew, .int .i64 2]) (by simp [results, Tryz.results4, go_sem, z0, z1, z2]) rfl ⟨2, 0, 0, none, 0, 0, [], rfl, Sl.nil _ _ 2, by rw [HM.out, HK.out]; unfold JoinedC; rw [if_pos (by rw [HN.out]; omega)]; exact finC_no HN.out HE.out, hbf⟩
end
end Go.Proofs.YtfopihlbdceepaaGreat
