/-
  few.Join that grows past K: the walk. Conditions: the counters may be.
-/
import Derived.Test.YtfopihlbdceepaaGreatFJoin
import Derived.Test.YtfopihlbdceepaaGreatSrt
namespace Go.Proofs.YtfopihlbdceepaaGreat
open Go.RowKit Go.Shelf Go.Maps
set_option linter.unusedVariables false

section
variable {A A2 : Option Addr} {n c n2 c2 k : Nat} {l m : List Ct} {w : World} {L L2 : Int}
set_option maxRecDepth 100000 in
set_option maxHeartbeats 12800000 in
theorem fjoin_big (h : Sp w A n c l) (hE : fwErr (k : Int) L n l = 0) (h2 : Sp w A2 n2 c2 m) (hE2 : fwErr (k : Int) L2 n2 m = 0) (hct : CtOk (l ++ m)) (hlen : k < (allC (l ++ m)).length) :
    Calls Tryz.prog 4 #[.agg #[.int .i64 k, .int .i64 L, .slice A n c], .agg #[.int .i64 k, .int .i64 L2, .slice A2 n2 c2]] w fun e w' => ∃ E K' L' A' n' c' l', e = .returned (.tuple #[.agg #[.int .i64 K', .int .i64 L', .slice A' n' c'], .int .i64 E]) ∧ Sp w' A' n' c' l' ∧ JoinedC (k : Int) (L + L2) (allC (l ++ m)) (E, K', L', l') ∧ Below w.heap.size w w' := by
  have hok := fwErr_ok h.plen hE
  have hok2 := fwErr_ok h2.plen hE2
  have hk1 : 1 ≤ k := by have := hok.k1; omega
  have hk2 : k ≤ 16 := by have := hok.k2; omega
  have hn1 : n ≤ 16 := by have := hok.nk; omega
  have hn2 : n2 ≤ 16 := by have := hok2.nk; omega
  have hL1 := hok.l1
  have hL2 := hok.l2
  have hL3 := hok2.l1
  have hL4 := hok2.l2
  have HBD := hide (allC_bnd hct)
  have HLL := hide h.plen
  have HLM := hide h2.plen
  have HS0 := hide (show allC ((l ++ m).take (n + 0)) = l by rw [Nat.add_zero, ← h.plen, List.take_left, allC_self hok.up])
  have HFIN := hide (show allC ((l ++ m).take (n + n2)) = allC (l ++ m) by rw [← h.plen, ← h2.plen, ← List.length_append, List.take_length])
  have HE := hide hE
  have HE2 := hide hE2
  have HCND := hide hlen
  have t1 : ((k : Int) != (k : Int)) = false := by simp
  have ez : IntKind.i64.wrap (L + L2) = L + L2 := IntWalk.i64_in _ (by omega)
  clear hE hE2 hok hok2 hct hlen
  obtain ⟨p0, g0, r0⟩ := fewThree w #[.int .i64 (k : Int), .int .i64 L, .slice A n c] #[.int .i64 (k : Int), .int .i64 L2, .slice A2 n2 c2]
  have hb0 : Below w.heap.size w (((w.alloc (.cells #[.int .i64 (k : Int), .int .i64 L, .slice A n c] 24)).alloc (.cells #[.int .i64 (k : Int), .int .i64 L2, .slice A2 n2 c2] 24)).alloc (.cells noFew 24)) := by repeat' (first | assumption | with_reducible exact Below.refl _ _ | with_reducible apply Below.drew | with_reducible apply below_drewN | with_reducible apply below_alloc | with_reducible refine below_set ?_ ?_ _ | (simp only [World.size_alloc, World.heap_drewN]; omega) | (simp; omega))
  go_enter Tryz.func4, Tryz.ntmps4
  go_wp2_with fail
  refine (fcheck_is (h.on hb0) HE.out).mono ?_
  rintro e w1 ⟨rfl, b1⟩
  have r1 := r0.below b1 r0.lt
  have p1 := p0.below b1 p0.lt
  have g1 := g0.below b1 g0.lt
  have k1 := below_on hb0 b1
  clear r0 p0 g0 b1 hb0
  have d0 := g1.at_ (i := 0) (u := .int .i64 (k : Int)) rfl
  have d1 := g1.at_ (i := 1) (u := .int .i64 L2) rfl
  have d2 := g1.at_ (i := 2) (u := .slice A2 n2 c2) rfl
  go_wp2_with fail
  refine (fcheck_is (h2.on k1) HE2.out).mono ?_
  rintro e w2 ⟨rfl, b2⟩
  clear d0 d1 d2
  have r2 := r1.below b2 r1.lt
  have p2 := p1.below b2 p1.lt
  have g2 := g1.below b2 g1.lt
  have kw2 := below_on k1 b2
  clear r1 p1 g1 b2 k1
  have f0 := p2.at_ (i := 0) (u := .int .i64 (k : Int)) rfl
  have f2 := p2.at_ (i := 2) (u := .slice A n c) rfl
  have e0 := g2.at_ (i := 0) (u := .int .i64 (k : Int)) rfl
  have e2 := g2.at_ (i := 2) (u := .slice A2 n2 c2) rfl
  go_wp2_with fail
  go_loopw [8, 39] (fun vl i wr => ∃ (j N : Nat) (A' : Option Addr) (c' : Nat), j ≤ n2 ∧ i = .int .i64 j ∧ vl = .slice A' N c' ∧ N ≤ n + j ∧ Sp wr A' N c' (allC ((l ++ m).take (n + j))) ∧ Below w2.heap.size w2 wr) (fun _ i _ => n2 - (intOf i).toNat)
  case atStart => exact ⟨0, n, A, c, Nat.zero_le _, rfl, rfl, Nat.le_refl _, by rw [HS0.out]; exact h.on (below_on kw2 (by repeat' (first | assumption | with_reducible exact Below.refl _ _ | with_reducible apply Below.drew | with_reducible apply below_drewN | with_reducible apply below_alloc | with_reducible refine below_set ?_ ?_ _ | (simp only [World.size_alloc, World.heap_drewN]; omega) | (simp; omega)))), by repeat' (first | assumption | with_reducible exact Below.refl _ _ | with_reducible apply Below.drew | with_reducible apply below_drewN | with_reducible apply below_alloc | with_reducible refine below_set ?_ ?_ _ | (simp only [World.size_alloc, World.heap_drewN]; omega) | (simp; omega))⟩
  case round =>
    obtain ⟨j, N, A', c', hj, rfl, rfl, hNj, hs, hb⟩ := hrel
    by_cases hlt : j < n2
    · obtain ⟨ad, x, rfl, hbk, hx, hc0, hc1⟩ := (h2.on (below_on kw2 hb)).pcell hlt
      have hx2 : (l ++ m)[n + j]? = some x := by rw [List.getElem?_append_right (by have := HLL.out; omega), HLL.out, Nat.add_sub_cancel_left]; exact hx
      have HT := hide (allC_take hx2)
      have HU := hide (allC_up ((l ++ m).take (n + j)))
      have HB := hide (show ∀ p ∈ allC ((l ++ m).take (n + j)), 0 ≤ p.2 ∧ p.2 ≤ 4000000000000000000 from fun p hp => by
        have := HBD.out (n + j) (by rw [List.length_append, HLL.out, HLM.out]; omega) p hp
        have h5 : ((n + j : Nat) : Int) * 1000000000000 ≤ 40 * 1000000000000 := Int.mul_le_mul_of_nonneg_right (by omega) (by omega)
        omega)
      have HX := hide (show 0 ≤ x.2 ∧ x.2 ≤ 1000000000000 from by
        have := (fwErr_ok HLM.out HE2.out).cnt x (List.mem_of_getElem? hx); omega)
      clear hx hx2
      obtain ⟨M, hM⟩ : ∃ M, allC ((l ++ m).take (n + j)) = M := ⟨_, rfl⟩
      rw [hM] at HT HU HB hs
      clear hM
      obtain ⟨x1, x2⟩ := x
      dsimp only at hc0 hc1
      have hal := addC_len x1 x2 M
      rw [hs.plen] at hal
      have bq := Blk.new wr 40 #[.int .i64 x1, .int .i64 x2]
      have q0 := bq.at_ (i := 0) (u := .int .i64 x1) rfl
      have q1 := bq.at_ (i := 1) (u := .int .i64 x2) rfl
      have hb2 := below_alloc hb (.cells #[.int .i64 x1, .int .i64 x2] 40)
      have hs2 := hs.on (below_alloc (Below.refl wr.heap.size wr) (.cells #[.int .i64 x1, .int .i64 x2] 40))
      clear bq hs f0 f2 e0 e2
      go_wp2_with fail
      refine (added_any (key := x1) (v := x2) (hs2.on (by repeat' (first | assumption | with_reducible exact Below.refl _ _ | with_reducible apply Below.drew | with_reducible apply below_drewN | with_reducible apply below_alloc | with_reducible refine below_set ?_ ?_ _ | (simp only [World.size_alloc, World.heap_drewN]; omega) | (simp; omega)))) HU.out HB.out HX.out.1 HX.out.2 (by omega)).mono ?_
      rintro e w5 ⟨A5, c5, rfl, own5, hb5⟩
      go_wp2_with fail
      go_roundw
      case rel => exact ⟨j + 1, _, A5, c5, by omega, by go_num, rfl, by omega, by rw [← Nat.add_assoc, HT.out]; exact own5.sl, below_on hb2 hb5⟩
      case measure => simp [intOf]; omega
    · obtain rfl : j = n2 := by omega
      rw [HFIN.out] at hs
      obtain ⟨M, hM⟩ : ∃ M, allC (l ++ m) = M := ⟨_, rfl⟩
      have HM := hide hM
      rw [hM] at hs HCND
      have HBM := hide (show ∀ p ∈ M, 1 ≤ p.2 ∧ p.2 ≤ 40 * 1000000000000 from fun p hp => by
        have := HBD.out (n + j) (by rw [List.length_append, HLL.out, HLM.out]; omega) p (by rw [HFIN.out, hM]; exact hp)
        have h5 : ((n + j : Nat) : Int) * 1000000000000 ≤ 40 * 1000000000000 := Int.mul_le_mul_of_nonneg_right (by omega) (by omega)
        omega)
      clear hM
      have HN := hide hs.plen
      have hlen : k < N := by have := HCND.out; rw [HN.out] at this; exact this
      have p3 := p2.below hb p2.lt
      have g3 := g2.below hb g2.lt
      have r3 := r2.below hb r2.lt
      have kw3 := below_on kw2 hb
      have hpl := p3.lt
      have hpg := g3.lt
      have x0 := p3.at_ (i := 0) (u := .int .i64 (k : Int)) rfl
      have x1 := p3.at_ (i := 1) (u := .int .i64 L) rfl
      have x2 := g3.at_ (i := 1) (u := .int .i64 L2) rfl
      clear f0 f2 e0 e2 p2 g2 r2
      obtain ⟨w3, rfl⟩ : ∃ w3 : World, w3 = wr := ⟨_, rfl⟩
      go_wp2_with fail
      refine anyTill.begin (S := Till (fun w' => w'.cell? ⟨w.heap.size, 0, none⟩ = some (.int .i64 (k : Int)) ∧ w'.cell? ⟨w.heap.size, 1, none⟩ = some (.int .i64 L) ∧ w'.cell? ⟨w.heap.size + 1, 1, none⟩ = some (.int .i64 L2)) (fun _ => True) []) (by kernel_rfl) ?_
      refine joinreg_start hs (by omega) ez hpl hpg x0 x1 x2 (fun _ _ d _ _ h => by cases d <;> exact h) ?_ (by rfl) (by kernel_rfl) (by rfl) (by repeat' (first | assumption | with_reducible exact Below.refl _ _ | with_reducible apply Below.drew | with_reducible apply below_drewN | with_reducible apply below_alloc | with_reducible refine below_set ?_ ?_ _ | (simp only [World.size_alloc, World.heap_drewN]; omega) | (simp; omega)))
      intro AC cC g wo hblk hown hgy kS
      have hwc : Below w.heap.size w wo := below_on kw3 kS
      have rb := r3.below kS r3.lt
      have pb := p3.below kS p3.lt
      have hgl := hblk.lt
      have hz3 := r3.lt
      have hgn : w.heap.size + 2 < g := by omega
      have hzg : w.heap.size + 3 ≤ w3.heap.size := by omega
      have ng1 : ¬ w.heap.size + 2 = g := by omega
      have ng2 : ¬ g = w.heap.size + 2 := by omega
      have ng3 : ¬ w.heap.size = g := by omega
      have hs4 := hs.on kS
      have u0 := pb.at_ (i := 0) (u := .int .i64 (k : Int)) rfl
      clear x0 x1 x2 p3 g3 r3 hpl hpg
      have t3 : (k : Int) < (N : Int) := by omega
      have HZ0 := hide (szTo_zero M)
      rw [HN.out] at HZ0
      go_wp2_with (at_make; refine wpList_make_sl T_num rfl rfl _ _ rfl (by rfl) (by rfl) (by omega) (by simp only [maxLen]; omega) ?_; intro w5 own5 hb5; rw [ints_zero, ← HZ0.out] at own5)
      obtain ⟨gz, hgz⟩ : ∃ gz, wo.heap.size = gz := ⟨_, rfl⟩
      rw [hgz] at own5 ⊢
      have hgzw : gz < w5.heap.size := (own5.blk rfl).2
      have hk5 : Below wo.heap.size wo w5 := below_on (by repeat' (first | assumption | with_reducible exact Below.refl _ _ | with_reducible apply Below.drew | with_reducible apply below_drewN | with_reducible apply below_alloc | with_reducible refine below_set ?_ ?_ _ | (simp only [World.size_alloc, World.heap_drewN]; omega) | (simp; omega))) hb5
      go_loopw [70] (fun i wr => ∃ j : Nat, j ≤ N ∧ i = .int .i64 j ∧ Own wr wo.heap.size 3 1 (some ⟨gz, 0, none⟩) N N (ints (szTo M j)) ∧ Below wo.heap.size wo wr) (fun i _ => N - (intOf i).toNat)
      case atStart => exact ⟨0, Nat.zero_le _, rfl, own5.mono (by omega), hk5⟩
      case round =>
        clear own5 hb5 hk5 hgzw
        obtain ⟨i, hi, rfl, ownz, hbz⟩ := hrel
        by_cases hin : i < N
        · obtain ⟨ad, x, rfl, hbk, hx, hc0, hc1⟩ := (hs4.on hbz).pcell hin
          have HT := hide (szTo_next hx)
          have HXI := hide (szTo_at (M := M) (k := i) (by rw [HN.out]; exact hin))
          clear hx
          obtain ⟨x1, x2⟩ := x
          dsimp only at hc0 hc1 HT
          have bq := Blk.new wr 40 #[.int .i64 x1, .int .i64 x2]
          have q0 := bq.at_ (i := 0) (u := .int .i64 x1) rfl
          have q1 := bq.at_ (i := 1) (u := .int .i64 x2) rfl
          have ownA := ownz.alloc (.cells #[.int .i64 x1, .int .i64 x2] 40)
          have hbA := below_alloc hbz (.cells #[.int .i64 x1, .int .i64 x2] 40)
          have hcb := ownA.cell (ints_at HXI.out)
          have hfb := ownA.free i
          have ownS := ownA.set i (.int .i64 x2)
          rw [← ints_set, HT.out] at ownS
          clear bq
          go_wp2_with fail
          go_roundw
          case rel => exact ⟨i + 1, by omega, by go_num, ownS, below_set hbA (by dsimp only; omega) _⟩
          case measure => simp [intOf]; omega
        · obtain rfl : i = N := by omega
          have HZA := hide (show szTo M i = M.map (·.2) by rw [← HN.out]; exact szTo_all M)
          rw [HZA.out] at ownz
          go_wp2_with fail
          refine (slsort_own ownz (by omega)).mono ?_
          rintro e w6 ⟨rfl, own6, hgr⟩
          have hgb : ∀ j, blockOf (some (⟨gz, 0, none⟩ : Addr)) = some j → wo.heap.size ≤ j := fun j hj => by
            have hj2 : gz = j := by simpa [blockOf] using hj
            omega
          have hb6 : Below wo.heap.size wo w6 := hbz.grown hgr hbz.size hgb
          clear hgb
          obtain ⟨t, ht⟩ : ∃ t : Nat, i - 1 - k = t := ⟨_, rfl⟩
          have htl : t < i := by omega
          have hzl : (srt (M.map (·.2))).length = i := by rw [(srt_perm _).length_eq, List.length_map, HN.out]
          obtain ⟨d, hd⟩ : ∃ d, (srt (M.map (·.2)))[t]? = some d := ⟨_, List.getElem?_eq_getElem (by omega)⟩
          have hdm : d ∈ M.map (·.2) := (srt_perm _).mem_iff.1 (List.mem_of_getElem? hd)
          have HDB := hide (show 1 ≤ d ∧ d ≤ 40 * 1000000000000 by
            obtain ⟨p, hp, rfl⟩ := List.mem_map.1 hdm
            exact HBM.out p hp)
          obtain ⟨d1, d2⟩ := HDB.out
          have HD := hide hd
          have HTT := hide ht
          have cz := own6.cell (ints_at hd)
          have ezi : IntKind.i64.wrap ((i : Int) - 1) = (i : Int) - 1 := IntWalk.i64_in _ (by omega)
          have ezj : IntKind.i64.wrap ((i : Int) - 1 - (k : Int)) = (t : Int) := by rw [IntWalk.i64_in _ (by omega)]; omega
          have hb7 := below_on hwc hb6
          have g3 := hblk.below hb6 hblk.lt
          have r3 := rb.below hb6 rb.lt
          have pp := pb.below hb6 pb.lt
          have o3 := hown.below hb6 (by omega)
          have s3 := hs4.on hb6
          have v0 := pp.at_ (i := 0) (u := .int .i64 (k : Int)) rfl
          have lg := g3.lt
          have lr3 := r3.lt
          have x1 := g3.at_ (i := 1) (u := .int .i64 (L + L2)) rfl
          have x2 := g3.at_ (i := 2) (u := .slice AC i cC) rfl
          have y1 := g3.free 1
          have y2 := g3.free 2
          have ez9 : IntKind.i64.wrap (L + L2 + d) = L + L2 + d := IntWalk.i64_in _ (by omega)
          have CLS := hide (fun w' (hb : Below w6.heap.size w6 w') => less_any (d := d) (s3.on hb) (by omega) (by omega) (fun p hp => by have := HBM.out p hp; omega) (by omega))
          clear hd hdm ht hzl hblk rb pb hown hs4 u0 hgr
          go_wp2_with fail
          refine anyTill.begin (S := Till (fun _ => True) (fun w' => w'.cell? ⟨g, 1, none⟩ = some (.int .i64 (L + L2))) [8]) (by kernel_rfl) ?_
          refine anyTill.last (i := 0) (oi := { dst := some 92, op := Op.move (Operand.tmp 8), type := 22, pos := "few.go:118", after := #[], guard := none }) (v := ?_) rfl (by kernel_rfl) (by kernel_rfl) (by kernel_rfl) (fun _ _ _ h => h) (by rfl) (Or.inl ⟨by rfl, ?_⟩) ⟨by trivial, fun _ => by (refine kept (B := w6.heap.size) (p := ⟨g, 1, none⟩) lg x1 ?_; repeat' (first | assumption | with_reducible exact Below.refl _ _ | with_reducible apply Below.drew | with_reducible apply below_drewN | with_reducible apply below_alloc | with_reducible refine below_set ?_ ?_ _ | (simp only [World.size_alloc, World.heap_drewN]; omega) | (simp; omega)))⟩ (fun hS => ?_)
          rotate_left
          · (intro w hSw; (try dsimp only at hSw); go_split_ands; go_simp; try with_reducible rfl)
          try simp only [Act.put, List.setIfInBounds_toArray, List.set_cons_zero, List.set_cons_succ]
          refine anyTill.last (i := 1) (oi := { dst := some 93, op := Op.move (Operand.tmp 15), type := 3, pos := "few.go:118", after := #[], guard := none }) (v := ?_) rfl (by kernel_rfl) (by kernel_rfl) (by kernel_rfl) (fun _ _ _ h => h) (by rfl) (Or.inl ⟨by rfl, ?_⟩) hS (fun hS => ?_)
          rotate_left
          · (intro w hSw; (try dsimp only at hSw); go_split_ands; go_simp; try with_reducible rfl)
          try simp only [Act.put, List.setIfInBounds_toArray, List.set_cons_zero, List.set_cons_succ]
          refine anyTill.last (i := 3) (oi := { dst := some 95, op := Op.fieldAddr 24 (Operand.tmp 11) 1, type := 0, pos := "few.go:118", after := #[], guard := none }) (v := ?_) rfl (by kernel_rfl) (by kernel_rfl) (by kernel_rfl) (fun _ _ _ h => h) (by rfl) (Or.inl ⟨by rfl, ?_⟩) hS (fun hS => ?_)
          rotate_left
          · (intro w hSw; (try dsimp only at hSw); go_split_ands; go_simp; try with_reducible rfl)
          try simp only [Act.put, List.setIfInBounds_toArray, List.set_cons_zero, List.set_cons_succ]
          refine anyTill.soon 8 (i := 4) (oi := { dst := some 96, op := Op.load 3 (Operand.tmp 95), type := 3, pos := "few.go:118", after := #[{ on := 3, ground := Ground.data }], guard := none }) (v := ?_) rfl (by kernel_rfl) (by kernel_rfl) (by kernel_rfl) (by kernel_rfl) (by rfl) (by rfl) (fun _ _ _ h => h) (by rfl) (Or.inl ⟨by rfl, ?_⟩) hS (fun hS => ?_)
          rotate_left
          · (intro w hSw; (try dsimp only at hSw); go_split_ands; go_simp; try with_reducible rfl)
          try simp only [Act.put, List.setIfInBounds_toArray, List.set_cons_zero, List.set_cons_succ]
          refine anyTill.last (i := 5) (oi := { dst := some 97, op := Op.move (Operand.tmp 15), type := 3, pos := "few.go:118", after := #[], guard := none }) (v := ?_) rfl (by kernel_rfl) (by kernel_rfl) (by kernel_rfl) (fun _ _ _ h => h) (by rfl) (Or.inl ⟨by rfl, ?_⟩) hS (fun hS => ?_)
          rotate_left
          · (intro w hSw; (try dsimp only at hSw); go_split_ands; go_simp; try with_reducible rfl)
          try simp only [Act.put, List.setIfInBounds_toArray, List.set_cons_zero, List.set_cons_succ]
          refine anyTill.last (i := 6) (oi := { dst := some 98, op := Op.binOp BinOp.add 3 (Operand.tmp 96) (Operand.tmp 97) 3, type := 3, pos := "few.go:118", after := #[{ on := 4, ground := Ground.data }, { on := 5, ground := Ground.data }], guard := none }) (v := ?_) rfl (by kernel_rfl) (by kernel_rfl) (by kernel_rfl) (fun _ _ _ h => h) (by rfl) (Or.inl ⟨by rfl, ?_⟩) hS (fun hS => ?_)
          rotate_left
          · (intro w hSw; (try dsimp only at hSw); go_split_ands; go_simp; try with_reducible rfl)
          try simp only [Act.put, List.setIfInBounds_toArray, List.set_cons_zero, List.set_cons_succ]
          refine anyTill.ready (rs := [2]) (by kernel_rfl) (by simp) ?_
          refine AllTill.cons (o := { dst := some 94, op := Op.call { callee := Callee.value (Operand.func 16), args := #[Operand.tmp 92, Operand.tmp 93], argTypes := #[22, 3] }, type := 22, pos := "few.go:118", after := #[{ on := 0, ground := Ground.data }, { on := 1, ground := Ground.data }], guard := none }) rfl (fun K hK => ?_) AllTill.nil
          · clear hS
            go_wp2_with fail
            go_at_call 16
            refine (CLS.out _ (by repeat' (first | assumption | with_reducible exact Below.refl _ _ | with_reducible apply Below.drew | with_reducible apply below_drewN | with_reducible apply below_alloc | with_reducible refine below_set ?_ ?_ _ | (simp only [World.size_alloc, World.heap_drewN]; omega) | (simp; omega)))).mono ?_
            rintro e w8 ⟨A5, c5, rfl, own8, hb8⟩
            have own8 := own8.mono (base' := w6.heap.size) (by first | exact Nat.le_refl _ | simp)
            have hb8 : Below w6.heap.size w6 w8 := below_on (by repeat' (first | assumption | with_reducible exact Below.refl _ _ | with_reducible apply Below.drew | with_reducible apply below_drewN | with_reducible apply below_alloc | with_reducible refine below_set ?_ ?_ _ | (simp only [World.size_alloc, World.heap_drewN]; omega) | (simp; omega))) hb8
            have hz8 := hb8.size
            obtain ⟨bc5, bf5⟩ := bcell hb8
            have g5 := g3.below hb8 lg
            refine hK.out _ _ ⟨by trivial, fun _ => by (refine kept (B := w6.heap.size) (p := ⟨g, 1, none⟩) lg x1 ?_; repeat' (first | assumption | with_reducible exact Below.refl _ _ | with_reducible apply Below.drew | with_reducible apply below_drewN | with_reducible apply below_alloc | with_reducible refine below_set ?_ ?_ _ | (simp only [World.size_alloc, World.heap_drewN]; omega) | (simp; omega)))⟩ (fun hS => ?_)
            clear hK K
            try simp only [Act.put, List.setIfInBounds_toArray, List.set_cons_zero, List.set_cons_succ]
            refine anyTill.last (i := 7) (oi := { dst := some 99, op := Op.fieldAddr 24 (Operand.tmp 11) 2, type := 0, pos := "few.go:118", after := #[{ on := 0, ground := Ground.phase }, { on := 1, ground := Ground.phase }, { on := 2, ground := Ground.phase }, { on := 3, ground := Ground.phase }, { on := 4, ground := Ground.phase }, { on := 5, ground := Ground.textOnly Departure.lateStores }, { on := 6, ground := Ground.textOnly Departure.lateStoresUnsure }], guard := none }) (v := ?_) rfl (by kernel_rfl) (by kernel_rfl) (by kernel_rfl) (fun _ _ _ h => h) (by rfl) (Or.inl ⟨by rfl, ?_⟩) hS (fun hS => ?_)
            rotate_left
            · (intro w hSw; (try dsimp only at hSw); go_split_ands; go_simp; try with_reducible rfl)
            try simp only [Act.put, List.setIfInBounds_toArray, List.set_cons_zero, List.set_cons_succ]
            refine anyTill.ready (rs := [8]) (by kernel_rfl) (by simp) ?_
            refine AllTill.cons (o := { dst := none, op := Op.store 22 (Operand.tmp 99) (Operand.tmp 94), type := 0, pos := "few.go:118", after := #[{ on := 7, ground := Ground.data }, { on := 2, ground := Ground.data }, { on := 2, ground := Ground.chain }, { on := 0, ground := Ground.phase }, { on := 1, ground := Ground.phase }, { on := 2, ground := Ground.phase }, { on := 3, ground := Ground.phase }, { on := 4, ground := Ground.phase }, { on := 5, ground := Ground.textOnly Departure.lateStores }, { on := 6, ground := Ground.textOnly Departure.lateStoresUnsure }], guard := none }) rfl (fun K hK => ?_) AllTill.nil
            · clear hS
              go_simp
              refine hK.out _ _ (Till.over (by rfl) (by trivial)) (fun hS => ?_)
              clear hK K
              try simp only [Act.put, List.setIfInBounds_toArray, List.set_cons_zero, List.set_cons_succ]
              refine anyTill.last (i := 9) (oi := { dst := some 100, op := Op.fieldAddr 24 (Operand.tmp 11) 1, type := 0, pos := "few.go:118", after := #[{ on := 0, ground := Ground.phase }, { on := 1, ground := Ground.phase }, { on := 2, ground := Ground.phase }, { on := 3, ground := Ground.phase }, { on := 4, ground := Ground.phase }, { on := 5, ground := Ground.phase }, { on := 6, ground := Ground.phase }, { on := 7, ground := Ground.phase }, { on := 8, ground := Ground.phase }], guard := none }) (v := ?_) rfl (by kernel_rfl) (by kernel_rfl) (by kernel_rfl) (fun _ _ _ h => h) (by rfl) (Or.inl ⟨by rfl, ?_⟩) hS (fun hS => ?_)
              rotate_left
              · (intro w hSw; (try dsimp only at hSw); go_split_ands; go_simp; try with_reducible rfl)
              try simp only [Act.put, List.setIfInBounds_toArray, List.set_cons_zero, List.set_cons_succ]
              refine anyTill.ready (rs := [10]) (by kernel_rfl) (by simp) ?_
              refine AllTill.cons (o := { dst := none, op := Op.store 3 (Operand.tmp 100) (Operand.tmp 98), type := 0, pos := "few.go:118", after := #[{ on := 9, ground := Ground.data }, { on := 6, ground := Ground.data }, { on := 8, ground := Ground.chain }, { on := 0, ground := Ground.phase }, { on := 1, ground := Ground.phase }, { on := 2, ground := Ground.phase }, { on := 3, ground := Ground.phase }, { on := 4, ground := Ground.phase }, { on := 5, ground := Ground.phase }, { on := 6, ground := Ground.phase }, { on := 7, ground := Ground.phase }, { on := 8, ground := Ground.phase }], guard := none }) rfl (fun K hK => ?_) AllTill.nil
              · clear hS
                go_simp
                refine hK.out _ _ (Till.over (by rfl) (by trivial)) (fun hS => ?_)
                clear hK K
                try simp only [Act.put, List.setIfInBounds_toArray, List.set_cons_zero, List.set_cons_succ]
                refine anyTill.fin (by kernel_rfl) ?_ _
                have hbb := (g5.set 2 (.slice A5 (lessC d M).length c5)).set 1 (.int .i64 (L + L2 + d))
                have hblk : Blk ((w8.setCell ⟨g, 2, none⟩ (.slice A5 (lessC d M).length c5)).setCell ⟨g, 1, none⟩ (.int .i64 (L + L2 + d))) g 24 #[.int .i64 (k : Int), .int .i64 (L + L2 + d), .slice A5 (lessC d M).length c5] := by simpa using hbb
                have hgo : ∀ g', A5 = some ⟨g', 0, none⟩ → g' ≠ g := fun g' e1 => by have := (own8.blk (g := g') (by rw [e1]; rfl)).1; omega
                have hown : Own ((w8.setCell ⟨g, 2, none⟩ (.slice A5 (lessC d M).length c5)).setCell ⟨g, 1, none⟩ (.int .i64 (L + L2 + d))) (w.heap.size + 3) 40 2 A5 (lessC d M).length c5 (prs (lessC d M)) := ((own8.far (p := ⟨g, 2, none⟩) hgo _).far (p := ⟨g, 1, none⟩) hgo _).mono (by have := hb7.size; omega)
                have k8 := below_on hb7 hb8
                have hwc9 : Below w.heap.size w ((w8.setCell ⟨g, 2, none⟩ (.slice A5 (lessC d M).length c5)).setCell ⟨g, 1, none⟩ (.int .i64 (L + L2 + d))) := below_set (below_set k8 (by dsimp only; omega) _) (by dsimp only; omega) _
                have rb : Blk ((w8.setCell ⟨g, 2, none⟩ (.slice A5 (lessC d M).length c5)).setCell ⟨g, 1, none⟩ (.int .i64 (L + L2 + d))) (w.heap.size + 2) 24 noFew := ((r3.below hb8 lr3).far (p := ⟨g, 2, none⟩) (by dsimp only; omega) _).far (p := ⟨g, 1, none⟩) (by dsimp only; omega) _
                generalize ((w8.setCell ⟨g, 2, none⟩ (.slice A5 (lessC d M).length c5)).setCell ⟨g, 1, none⟩ (.int .i64 (L + L2 + d))) = wo at hblk hown hwc9 rb ⊢
                obtain ⟨M5, hM5⟩ : ∃ M5, lessC d M = M5 := ⟨_, rfl⟩
                have HM5 := hide hM5
                rw [hM5] at hown hblk ⊢
                obtain ⟨n5, hn5⟩ : ∃ n5, M5.length = n5 := ⟨_, rfl⟩
                have HN5 := hide hn5
                rw [hn5] at hown hblk ⊢
                obtain ⟨K, hKk⟩ : ∃ K : Int, (k : Int) = K := ⟨_, rfl⟩
                have HK := hide hKk
                rw [hKk] at hblk t1 t3 v0 ⊢
                have q0 := hblk.at_ (i := 0) (u := .int .i64 K) rfl
                have q1 := hblk.at_ (i := 1) (u := .int .i64 (L + L2 + d)) rfl
                have q2 := hblk.at_ (i := 2) (u := .slice A5 n5 c5) rfl
                clear hbb g5 hgo own8 hb8 k8 bc5 bf5 hM5 hn5 x1 x2 y1 y2 g3 r3 o3 CLS hS hz8 hKk cz v0 pp
                have CK := hide (fcheck_any K (L + L2 + d) hown.sl)
                by_cases hE : fwErr K (L + L2 + d) n5 M5 = 0
                · rw [hE] at CK
                  have HE := hide hE
                  clear hE
                  go_wp2_with fail
                  refine CK.out.mono ?_
                  rintro e w9 ⟨rfl, b9⟩
                  have r9 := rb.below b9 rb.lt
                  have g9 := hblk.below b9 hblk.lt
                  have s9 := (hown.sl).on b9
                  have k9 := below_on hwc9 b9
                  have z0 := r9.at_ (i := 0) (u := .int .i64 0) rfl
                  have z1 := r9.at_ (i := 1) (u := .int .i64 0) rfl
                  have z2 := r9.at_ (i := 2) (u := .slice none 0 0) rfl
                  have y0 := r9.free 0
                  have y1 := r9.free 1
                  have y2 := r9.free 2
                  have x0 := g9.at_ (i := 0) (u := .int .i64 K) rfl
                  have x1 := g9.at_ (i := 1) (u := .int .i64 (L + L2 + d)) rfl
                  have x2 := g9.at_ (i := 2) (u := .slice A5 n5 c5) rfl
                  clear q0 q1 q2 hblk rb CK
                  go_wp2_with fail
                  have bf : Blk (((w9.setCell ⟨w.heap.size + 2, 0, none⟩ (.int .i64 K)).setCell ⟨w.heap.size + 2, 1, none⟩ (.int .i64 (L + L2 + d))).setCell ⟨w.heap.size + 2, 2, none⟩ (.slice A5 n5 c5)) (w.heap.size + 2) 24 #[.int .i64 K, .int .i64 (L + L2 + d), .slice A5 n5 c5] := by
                    simpa [noFew] using ((r9.set 0 (.int .i64 K)).set 1 (.int .i64 (L + L2 + d))).set 2 (.slice A5 n5 c5)
                  have hbf : Below w.heap.size w (((w9.setCell ⟨w.heap.size + 2, 0, none⟩ (.int .i64 K)).setCell ⟨w.heap.size + 2, 1, none⟩ (.int .i64 (L + L2 + d))).setCell ⟨w.heap.size + 2, 2, none⟩ (.slice A5 n5 c5)) :=
                    below_set (below_set (below_set k9 (by dsimp only; omega) _) (by dsimp only; omega) _) (by dsimp only; omega) _
                  have sf : Sp (((w9.setCell ⟨w.heap.size + 2, 0, none⟩ (.int .i64 K)).setCell ⟨w.heap.size + 2, 1, none⟩ (.int .i64 (L + L2 + d))).setCell ⟨w.heap.size + 2, 2, none⟩ (.slice A5 n5 c5)) A5 n5 c5 M5 := by
                    have o9 := hown.below b9 (Nat.le_refl _)
                    have hne : ∀ g', A5 = some ⟨g', 0, none⟩ → g' ≠ w.heap.size + 2 := fun g' e1 => by have := (o9.blk (g := g') (by rw [e1]; rfl)).1; omega
                    exact (((o9.far (p := ⟨w.heap.size + 2, 0, none⟩) hne _).far (p := ⟨w.heap.size + 2, 1, none⟩) hne _).far (p := ⟨w.heap.size + 2, 2, none⟩) hne _).sl
                  clear z0 z1 z2 y0 y1 y2 x0 x1 x2
                  generalize (((w9.setCell ⟨w.heap.size + 2, 0, none⟩ (.int .i64 K)).setCell ⟨w.heap.size + 2, 1, none⟩ (.int .i64 (L + L2 + d))).setCell ⟨w.heap.size + 2, 2, none⟩ (.slice A5 n5 c5)) = wf at bf hbf sf ⊢
                  have z0 := bf.at_ (i := 0) (u := .int .i64 K) rfl
                  have z1 := bf.at_ (i := 1) (u := .int .i64 (L + L2 + d)) rfl
                  have z2 := bf.at_ (i := 2) (u := .slice A5 n5 c5) rfl
                  exact bodyPost_ret (v := .tuple #[.agg #[.int .i64 K, .int .i64 (L + L2 + d), .slice A5 n5 c5], .int .i64 0]) (by simp [results, Tryz.results4, go_sem, z0, z1, z2]) rfl ⟨0, K, L + L2 + d, A5, n5, c5, M5, rfl, sf, by rw [HM.out, HK.out]; unfold JoinedC; rw [if_neg (by rw [HN.out, ← HK.out]; omega)]; exact ⟨_, d, srt_perm _, srt_up _, by rw [HN.out, ← HK.out, Int.toNat_natCast, HTT.out]; exact HD.out, by rw [HM5.out]; exact finC_yes HN5.out HE.out⟩, hbf⟩
                · obtain ⟨E, hEE⟩ : ∃ E, fwErr K (L + L2 + d) n5 M5 = E := ⟨_, rfl⟩
                  rw [hEE] at CK hE
                  have t9 : (E != 0) = true := by simpa using hE
                  have HE := hide (show fwErr K (L + L2 + d) n5 M5 ≠ 0 by rw [hEE]; exact hE)
                  clear hE hEE
                  go_wp2_with fail
                  refine CK.out.mono ?_
                  rintro e w9 ⟨rfl, b9⟩
                  have r9 := rb.below b9 rb.lt
                  have k9 := below_on hwc9 b9
                  have z0 := r9.at_ (i := 0) (u := .int .i64 0) rfl
                  have z1 := r9.at_ (i := 1) (u := .int .i64 0) rfl
                  have z2 := r9.at_ (i := 2) (u := .slice none 0 0) rfl
                  have y0 := r9.free 0
                  have y1 := r9.free 1
                  have y2 := r9.free 2
                  clear q0 q1 q2 hblk rb b9 CK
                  go_wp2_with fail
                  have bf : Blk (((w9.setCell ⟨w.heap.size + 2, 0, none⟩ (.int .i64 0)).setCell ⟨w.heap.size + 2, 1, none⟩ (.int .i64 0)).setCell ⟨w.heap.size + 2, 2, none⟩ (.slice none 0 0)) (w.heap.size + 2) 24 noFew := by
                    simpa [noFew] using ((r9.set 0 (.int .i64 0)).set 1 (.int .i64 0)).set 2 (.slice none 0 0)
                  have hbf : Below w.heap.size w (((w9.setCell ⟨w.heap.size + 2, 0, none⟩ (.int .i64 0)).setCell ⟨w.heap.size + 2, 1, none⟩ (.int .i64 0)).setCell ⟨w.heap.size + 2, 2, none⟩ (.slice none 0 0)) :=
                    below_set (below_set (below_set k9 (by dsimp only; omega) _) (by dsimp only; omega) _) (by dsimp only; omega) _
                  clear z0 z1 z2 y0 y1 y2
                  generalize (((w9.setCell ⟨w.heap.size + 2, 0, none⟩ (.int .i64 0)).setCell ⟨w.heap.size + 2, 1, none⟩ (.int .i64 0)).setCell ⟨w.heap.size + 2, 2, none⟩ (.slice none 0 0)) = wf at bf hbf ⊢
                  have z0 := bf.at_ (i := 0) (u := .int .i64 0) rfl
                  have z1 := bf.at_ (i := 1) (u := .int .i64 0) rfl
                  have z2 := bf.at_ (i := 2) (u := .slice none 0 0) rfl
                  exact bodyPost_ret (v := .tuple #[.agg noFew, .int .i64 2]) (by simp [results, Tryz.results4, go_sem, z0, z1, z2]) rfl ⟨2, 0, 0, none, 0, 0, [], rfl, Sl.nil _ _ 2, by rw [HM.out, HK.out]; unfold JoinedC; rw [if_neg (by rw [HN.out, ← HK.out]; omega)]; exact ⟨_, d, srt_perm _, srt_up _, by rw [HN.out, ← HK.out, Int.toNat_natCast, HTT.out]; exact HD.out, by rw [HM5.out]; exact finC_no HN5.out HE.out⟩, hbf⟩
end
end Go.Proofs.YtfopihlbdceepaaGreat
