/- Proves the parts of the claim that its last text joins: PutNew, PutSame, PutOld, Bput. Conditions: those that each theorem names. -/
import Derived.Test.YtjpbjghdplbdcaaGreatDoorM35
section
namespace Go.Proofs.YtjpbjghdplbdcaaGreatDoor
open Go.RowKit Go.Shelf
section
variable {A : Option Addr} {n c : Nat} {l : List Rul} {w : World}
set_option maxRecDepth 20000 in
set_option maxHeartbeats 3200000 in
theorem bput_new (h : Sr w A n c l) (hok : RlOk l) (p : ByteArray) (a b : Int) (hp : p.size ≤ 9223372036854775807) (h1 : oneErr (p, a, b) = 0) {P : Nat} (hP : posR p l = P) (hPn : P < n) (hh : hasR p l = true) {q : ByteArray} {x y : Int} (hq : l[P]? = some (q, x, y)) (hn : newer (p, a, b) (q, x, y) = true) :
    Calls Tryz.prog 197 #[.slice A n c, .agg #[.string p, .int .i64 a, .int .i64 b]] w fun e w' => ∃ A' c', e = .returned (.tuple #[.slice A' n c', .int .i64 0]) ∧ Own w' w.heap.size 132 3 A' n c' (rls (l.set P (p, a, b))) ∧ Below w.heap.size w w' := by
  have hm := h.len_max
  have hn16 : n ≤ 16 := by rw [← h.rlen]; exact hok.len
  have b0 := Blk.new w 132 #[.string p, .int .i64 a, .int .i64 b]
  have hb0 : Below w.heap.size w (w.alloc (.cells #[.string p, .int .i64 a, .int .i64 b] 132)) := by repeat' (first | assumption | with_reducible exact Below.refl _ _ | with_reducible apply Below.drew | with_reducible apply below_drewN | with_reducible apply below_alloc | with_reducible refine below_set ?_ ?_ _ | (simp only [World.size_alloc, World.heap_drewN]; omega) | (simp; omega))
  have CC := hide (bcheck_any (h.on hb0) hok.fit)
  rw [rlErr_of h.rlen hok] at CC
  have CO := hide (fun w => one_any p a b w hp)
  have CL := hide (fun w' (hb : Below w.heap.size w w') => cloneR (h.on hb) (by omega))
  have CF := hide (fun w' (hb : Below w.heap.size w w') => find_any (key := p) (h.on hb) hok.up (by omega))
  rw [h1] at CO
  rw [hP, hh] at CF
  have HLN := hide h.rlen
  have HQ := hide hq
  have HN := hide hn
  clear hq hn
  clear h1 hP hh hok h
  go_enter Tryz.func197, Tryz.ntmps197
  go_wp2_with fail
  refine CC.out.mono ?_
  rintro e w1 ⟨rfl, bel1⟩
  have b1 := b0.below bel1 b0.lt
  have k1 := below_on hb0 bel1
  have c0 := b1.at_ (i := 0) (u := .string p) rfl
  have c1 := b1.at_ (i := 1) (u := .int .i64 a) rfl
  have c2 := b1.at_ (i := 2) (u := .int .i64 b) rfl
  clear b0 hb0 bel1 CC
  go_wp2_with fail
  refine (CO.out _).mono ?_
  rintro e w2 ⟨rfl, bel2⟩
  have b2 := b1.below bel2 b1.lt
  have k2 := below_on k1 bel2
  clear c0 c1 c2 b1 k1 bel2 CO
  go_wp2_with fail
  refine (CL.out _ k2).mono ?_
  rintro e w3 ⟨AC, cC, rfl, own3, bel3⟩
  have b3 := b2.below bel3 b2.lt
  have k3 := below_on k2 bel3
  have lw := b2.lt
  have kz := k2.size
  clear b2 CL
  have c0 := b3.at_ (i := 0) (u := .string p) rfl
  go_wp2_with fail
  refine (CF.out _ k3).mono ?_
  rintro e w4 ⟨rfl, bel4⟩
  have b4 := b3.below bel4 b3.lt
  have own4 := own3.below bel4 (Nat.le_refl _)
  have l4 : Below w2.heap.size w2 w4 := below_on bel3 bel4
  have k4 := below_on k3 bel4
  clear c0 b3 k3 bel4 bel3 own3 CF
  have c0 := b4.at_ (i := 0) (u := .string p) rfl
  have c1 := b4.at_ (i := 1) (u := .int .i64 a) rfl
  have c2 := b4.at_ (i := 2) (u := .int .i64 b) rfl
  obtain ⟨g, rfl, hg, hgl⟩ := own4.addr (by omega)
  have d0 := own4.cell (rls_at0 HQ.out)
  have d1 := own4.cell (rls_at1 HQ.out)
  have d2 := own4.cell (rls_at2 HQ.out)
  dsimp only at d0 d1 d2
  have lb := b4.lt
  go_upto_region 9 with fail
  go_region_held3 (fun w' => Below w4.heap.size w4 w' ∧ w'.cell? ⟨w.heap.size, 0, none⟩ = some (.string p) ∧ w'.cell? ⟨w.heap.size, 1, none⟩ = some (.int .i64 a) ∧ w'.cell? ⟨w.heap.size, 2, none⟩ = some (.int .i64 b) ∧ w'.cell? ⟨g, P * 3, none⟩ = some (.string q) ∧ w'.cell? ⟨g, P * 3 + 1, none⟩ = some (.int .i64 x) ∧ w'.cell? ⟨g, P * 3 + 2, none⟩ = some (.int .i64 y)) ((refine keep6 lb hgl c0 c1 c2 d0 d1 d2 ?_; repeat' (first | assumption | with_reducible exact Below.refl _ _ | with_reducible apply Below.drew | with_reducible apply below_drewN | with_reducible apply below_alloc | with_reducible refine below_set ?_ ?_ _ | (simp only [World.size_alloc, World.heap_drewN]; omega) | (simp; omega))))
    (first | (go_at_call 252; refine (newer_any p q a b x y _ HN.out).mono ?_; rintro e w5 ⟨rfl, bel5⟩; have hw5 : Below w4.heap.size w4 w5 := below_on (by repeat' (first | assumption | with_reducible exact Below.refl _ _ | with_reducible apply Below.drew | with_reducible apply below_drewN | with_reducible apply below_alloc | with_reducible refine below_set ?_ ?_ _ | (simp only [World.size_alloc, World.heap_drewN]; omega) | (simp; omega))) bel5; have hz5 := hw5.size; obtain ⟨hc5, hf5⟩ := bcell hw5))
  have own5 := own4.below hw5 (Nat.le_refl _)
  have f0 := own5.free (P * 3)
  have f1 := own5.free (P * 3 + 1)
  have f2 := own5.free (P * 3 + 2)
  have e0 := own5.cell (rls_at0 HQ.out)
  have e1 := own5.cell (rls_at1 HQ.out)
  have e2 := own5.cell (rls_at2 HQ.out)
  dsimp only at e0 e1 e2
  have r0 : w5.cell? ⟨w.heap.size, 0, none⟩ = some (.string p) := (hc5 _ _ lb).trans c0
  have r1 : w5.cell? ⟨w.heap.size, 1, none⟩ = some (.int .i64 a) := (hc5 _ _ lb).trans c1
  have r2 : w5.cell? ⟨w.heap.size, 2, none⟩ = some (.int .i64 b) := (hc5 _ _ lb).trans c2
  clear hc5 c0 c1 c2
  have k5 := below_on k4 hw5
  clear own4 d0 d1 d2 b4 l4 hf5
  go_wp2_with fail
  go_ret2
  refine ⟨_, _, rfl, ?_, ?_⟩
  · have h9 := (((own5.set (P * 3) (.string p)).set (P * 3 + 1) (.int .i64 a)).set (P * 3 + 2) (.int .i64 b)).mono (base' := w.heap.size) (by first | omega | (have := k2.size; omega))
    rw [rls_set l P (p, a, b) (by rw [HLN.out]; exact hPn)] at h9
    exact h9
  · exact below_set (below_set (below_set k5 (by show w.heap.size ≤ g; omega) _) (by show w.heap.size ≤ g; omega) _) (by show w.heap.size ≤ g; omega) _
end
end Go.Proofs.YtjpbjghdplbdcaaGreatDoor
end
section
namespace Go.Proofs.YtjpbjghdplbdcaaGreatDoor
open Go.RowKit Go.Shelf
section
variable {A : Option Addr} {n c : Nat} {l : List Rul} {w : World}
set_option maxRecDepth 20000 in
set_option maxHeartbeats 3200000 in
theorem bput_same (h : Sr w A n c l) (hok : RlOk l) (p : ByteArray) (a b : Int) (hp : p.size ≤ 9223372036854775807) (h1 : oneErr (p, a, b) = 0) {P : Nat} (hP : posR p l = P) (hPn : P < n) (hh : hasR p l = true) (hq : l[P]? = some (p, a, b)) (hn : newer (p, a, b) (p, a, b) = false) :
    Calls Tryz.prog 197 #[.slice A n c, .agg #[.string p, .int .i64 a, .int .i64 b]] w fun e w' => ∃ A' c', e = .returned (.tuple #[.slice A' n c', .int .i64 0]) ∧ Own w' w.heap.size 132 3 A' n c' (rls l) ∧ Below w.heap.size w w' := by
  have hm := h.len_max
  have hn16 : n ≤ 16 := by rw [← h.rlen]; exact hok.len
  have b0 := Blk.new w 132 #[.string p, .int .i64 a, .int .i64 b]
  have hb0 : Below w.heap.size w (w.alloc (.cells #[.string p, .int .i64 a, .int .i64 b] 132)) := by repeat' (first | assumption | with_reducible exact Below.refl _ _ | with_reducible apply Below.drew | with_reducible apply below_drewN | with_reducible apply below_alloc | with_reducible refine below_set ?_ ?_ _ | (simp only [World.size_alloc, World.heap_drewN]; omega) | (simp; omega))
  have CC := hide (bcheck_any (h.on hb0) hok.fit)
  rw [rlErr_of h.rlen hok] at CC
  have CO := hide (fun w => one_any p a b w hp)
  have CL := hide (fun w' (hb : Below w.heap.size w w') => cloneR (h.on hb) (by omega))
  have CF := hide (fun w' (hb : Below w.heap.size w w') => find_any (key := p) (h.on hb) hok.up (by omega))
  rw [h1] at CO
  rw [hP, hh] at CF
  have HLN := hide h.rlen
  have HQ := hide hq
  have HN := hide hn
  clear hq hn
  clear h1 hP hh hok h
  go_enter Tryz.func197, Tryz.ntmps197
  go_wp2_with fail
  refine CC.out.mono ?_
  rintro e w1 ⟨rfl, bel1⟩
  have b1 := b0.below bel1 b0.lt
  have k1 := below_on hb0 bel1
  have c0 := b1.at_ (i := 0) (u := .string p) rfl
  have c1 := b1.at_ (i := 1) (u := .int .i64 a) rfl
  have c2 := b1.at_ (i := 2) (u := .int .i64 b) rfl
  clear b0 hb0 bel1 CC
  go_wp2_with fail
  refine (CO.out _).mono ?_
  rintro e w2 ⟨rfl, bel2⟩
  have b2 := b1.below bel2 b1.lt
  have k2 := below_on k1 bel2
  clear c0 c1 c2 b1 k1 bel2 CO
  go_wp2_with fail
  refine (CL.out _ k2).mono ?_
  rintro e w3 ⟨AC, cC, rfl, own3, bel3⟩
  have b3 := b2.below bel3 b2.lt
  have k3 := below_on k2 bel3
  have lw := b2.lt
  have kz := k2.size
  clear b2 CL
  have c0 := b3.at_ (i := 0) (u := .string p) rfl
  go_wp2_with fail
  refine (CF.out _ k3).mono ?_
  rintro e w4 ⟨rfl, bel4⟩
  have b4 := b3.below bel4 b3.lt
  have own4 := own3.below bel4 (Nat.le_refl _)
  have l4 : Below w2.heap.size w2 w4 := below_on bel3 bel4
  have k4 := below_on k3 bel4
  clear c0 b3 k3 bel4 bel3 own3 CF
  have c0 := b4.at_ (i := 0) (u := .string p) rfl
  have c1 := b4.at_ (i := 1) (u := .int .i64 a) rfl
  have c2 := b4.at_ (i := 2) (u := .int .i64 b) rfl
  obtain ⟨g, rfl, hg, hgl⟩ := own4.addr (by omega)
  have d0 := own4.cell (rls_at0 HQ.out)
  have d1 := own4.cell (rls_at1 HQ.out)
  have d2 := own4.cell (rls_at2 HQ.out)
  dsimp only at d0 d1 d2
  have lb := b4.lt
  go_upto_region 9 with fail
  go_region_held3 (fun w' => Below w4.heap.size w4 w' ∧ w'.cell? ⟨w.heap.size, 0, none⟩ = some (.string p) ∧ w'.cell? ⟨w.heap.size, 1, none⟩ = some (.int .i64 a) ∧ w'.cell? ⟨w.heap.size, 2, none⟩ = some (.int .i64 b) ∧ w'.cell? ⟨g, P * 3, none⟩ = some (.string p) ∧ w'.cell? ⟨g, P * 3 + 1, none⟩ = some (.int .i64 a) ∧ w'.cell? ⟨g, P * 3 + 2, none⟩ = some (.int .i64 b)) ((refine keep6 lb hgl c0 c1 c2 d0 d1 d2 ?_; repeat' (first | assumption | with_reducible exact Below.refl _ _ | with_reducible apply Below.drew | with_reducible apply below_drewN | with_reducible apply below_alloc | with_reducible refine below_set ?_ ?_ _ | (simp only [World.size_alloc, World.heap_drewN]; omega) | (simp; omega))))
    (first | (go_at_call 252; refine (newer_any p p a b a b _ HN.out).mono ?_; rintro e w5 ⟨rfl, bel5⟩; have hw5 : Below w4.heap.size w4 w5 := below_on (by repeat' (first | assumption | with_reducible exact Below.refl _ _ | with_reducible apply Below.drew | with_reducible apply below_drewN | with_reducible apply below_alloc | with_reducible refine below_set ?_ ?_ _ | (simp only [World.size_alloc, World.heap_drewN]; omega) | (simp; omega))) bel5; have hz5 := hw5.size; obtain ⟨hc5, hf5⟩ := bcell hw5))
  have own5 := own4.below hw5 (Nat.le_refl _)
  have k5 := below_on k4 hw5
  clear own4
  go_wp2_with fail
  go_quiet (fail)
  go_wp2_with fail
  go_ret2
  exact ⟨_, _, rfl, (own5.drewN _).mono (by first | omega | (have := k2.size; omega)), by repeat' (first | assumption | with_reducible exact Below.refl _ _ | with_reducible apply Below.drew | with_reducible apply below_drewN | with_reducible apply below_alloc | with_reducible refine below_set ?_ ?_ _ | (simp only [World.size_alloc, World.heap_drewN]; omega) | (simp; omega))⟩
end
end Go.Proofs.YtjpbjghdplbdcaaGreatDoor
end
section
namespace Go.Proofs.YtjpbjghdplbdcaaGreatDoor
open Go.RowKit Go.Shelf
section
variable {A : Option Addr} {n c : Nat} {l : List Rul} {w : World}
set_option maxRecDepth 20000 in
set_option maxHeartbeats 3200000 in
theorem bput_old (h : Sr w A n c l) (hok : RlOk l) (p : ByteArray) (a b : Int) (hp : p.size ≤ 9223372036854775807) (h1 : oneErr (p, a, b) = 0) {P : Nat} (hP : posR p l = P) (hPn : P < n) (hh : hasR p l = true) {x y : Int} (hq : l[P]? = some (p, x, y)) (hn : newer (p, a, b) (p, x, y) = false) (hd : ¬ (a = x ∧ b = y)) :
    Calls Tryz.prog 197 #[.slice A n c, .agg #[.string p, .int .i64 a, .int .i64 b]] w fun e w' => e = .returned (.tuple #[.slice none 0 0, .int .i64 8]) ∧ Below w.heap.size w w' := by
  have hm := h.len_max
  have hn16 : n ≤ 16 := by rw [← h.rlen]; exact hok.len
  have b0 := Blk.new w 132 #[.string p, .int .i64 a, .int .i64 b]
  have hb0 : Below w.heap.size w (w.alloc (.cells #[.string p, .int .i64 a, .int .i64 b] 132)) := by repeat' (first | assumption | with_reducible exact Below.refl _ _ | with_reducible apply Below.drew | with_reducible apply below_drewN | with_reducible apply below_alloc | with_reducible refine below_set ?_ ?_ _ | (simp only [World.size_alloc, World.heap_drewN]; omega) | (simp; omega))
  have CC := hide (bcheck_any (h.on hb0) hok.fit)
  rw [rlErr_of h.rlen hok] at CC
  have CO := hide (fun w => one_any p a b w hp)
  have CL := hide (fun w' (hb : Below w.heap.size w w') => cloneR (h.on hb) (by omega))
  have CF := hide (fun w' (hb : Below w.heap.size w w') => find_any (key := p) (h.on hb) hok.up (by omega))
  rw [h1] at CO
  rw [hP, hh] at CF
  have HLN := hide h.rlen
  have HQ := hide hq
  have HN := hide hn
  clear hq hn
  clear h1 hP hh hok h
  go_enter Tryz.func197, Tryz.ntmps197
  go_wp2_with fail
  refine CC.out.mono ?_
  rintro e w1 ⟨rfl, bel1⟩
  have b1 := b0.below bel1 b0.lt
  have k1 := below_on hb0 bel1
  have c0 := b1.at_ (i := 0) (u := .string p) rfl
  have c1 := b1.at_ (i := 1) (u := .int .i64 a) rfl
  have c2 := b1.at_ (i := 2) (u := .int .i64 b) rfl
  clear b0 hb0 bel1 CC
  go_wp2_with fail
  refine (CO.out _).mono ?_
  rintro e w2 ⟨rfl, bel2⟩
  have b2 := b1.below bel2 b1.lt
  have k2 := below_on k1 bel2
  clear c0 c1 c2 b1 k1 bel2 CO
  go_wp2_with fail
  refine (CL.out _ k2).mono ?_
  rintro e w3 ⟨AC, cC, rfl, own3, bel3⟩
  have b3 := b2.below bel3 b2.lt
  have k3 := below_on k2 bel3
  have lw := b2.lt
  have kz := k2.size
  clear b2 CL
  have c0 := b3.at_ (i := 0) (u := .string p) rfl
  go_wp2_with fail
  refine (CF.out _ k3).mono ?_
  rintro e w4 ⟨rfl, bel4⟩
  have b4 := b3.below bel4 b3.lt
  have own4 := own3.below bel4 (Nat.le_refl _)
  have l4 : Below w2.heap.size w2 w4 := below_on bel3 bel4
  have k4 := below_on k3 bel4
  clear c0 b3 k3 bel4 bel3 own3 CF
  have c0 := b4.at_ (i := 0) (u := .string p) rfl
  have c1 := b4.at_ (i := 1) (u := .int .i64 a) rfl
  have c2 := b4.at_ (i := 2) (u := .int .i64 b) rfl
  obtain ⟨g, rfl, hg, hgl⟩ := own4.addr (by omega)
  have d0 := own4.cell (rls_at0 HQ.out)
  have d1 := own4.cell (rls_at1 HQ.out)
  have d2 := own4.cell (rls_at2 HQ.out)
  dsimp only at d0 d1 d2
  have lb := b4.lt
  go_upto_region 9 with fail
  go_region_held3 (fun w' => Below w4.heap.size w4 w' ∧ w'.cell? ⟨w.heap.size, 0, none⟩ = some (.string p) ∧ w'.cell? ⟨w.heap.size, 1, none⟩ = some (.int .i64 a) ∧ w'.cell? ⟨w.heap.size, 2, none⟩ = some (.int .i64 b) ∧ w'.cell? ⟨g, P * 3, none⟩ = some (.string p) ∧ w'.cell? ⟨g, P * 3 + 1, none⟩ = some (.int .i64 x) ∧ w'.cell? ⟨g, P * 3 + 2, none⟩ = some (.int .i64 y)) ((refine keep6 lb hgl c0 c1 c2 d0 d1 d2 ?_; repeat' (first | assumption | with_reducible exact Below.refl _ _ | with_reducible apply Below.drew | with_reducible apply below_drewN | with_reducible apply below_alloc | with_reducible refine below_set ?_ ?_ _ | (simp only [World.size_alloc, World.heap_drewN]; omega) | (simp; omega))))
    (first | (go_at_call 252; refine (newer_any p p a b x y _ HN.out).mono ?_; rintro e w5 ⟨rfl, bel5⟩; have hw5 : Below w4.heap.size w4 w5 := below_on (by repeat' (first | assumption | with_reducible exact Below.refl _ _ | with_reducible apply Below.drew | with_reducible apply below_drewN | with_reducible apply below_alloc | with_reducible refine below_set ?_ ?_ _ | (simp only [World.size_alloc, World.heap_drewN]; omega) | (simp; omega))) bel5; have hz5 := hw5.size; obtain ⟨hc5, hf5⟩ := bcell hw5))
  have own5 := own4.below hw5 (Nat.le_refl _)
  have hne : ∀ w, (Op.equalIn 10000 132 (.agg #[.string p, .int .i64 x, .int .i64 y]) (.agg #[.string p, .int .i64 a, .int .i64 b])).run Tryz.prog w = .ok false w := fun w => by rw [eqR_run]; exact congrArg (fun v => Result.ok v w) (by simp only [beq_self_eq_true, Bool.true_and, Bool.and_eq_false_iff, beq_eq_false_iff_ne]; omega)
  clear hd
  have k5 := below_on k4 hw5
  clear own4
  go_wp2_with fail
  go_quiet (fail)
  go_wp2_with fail
  go_ret2
  exact ⟨rfl, by repeat' (first | assumption | with_reducible exact Below.refl _ _ | with_reducible apply Below.drew | with_reducible apply below_drewN | with_reducible apply below_alloc | with_reducible refine below_set ?_ ?_ _ | (simp only [World.size_alloc, World.heap_drewN]; omega) | (simp; omega))⟩
end
end Go.Proofs.YtjpbjghdplbdcaaGreatDoor
end
section
namespace Go.Proofs.YtjpbjghdplbdcaaGreatDoor
open Go.RowKit Go.Shelf
section
variable {A : Option Addr} {n c : Nat} {l : List Rul} {w : World}
theorem bput_own (h : Sr w A n c l) (hok : RlOk l) (p : ByteArray) (a b : Int) (hp : p.size ≤ 9223372036854775807) :
    Calls Tryz.prog 197 #[.slice A n c, .agg #[.string p, .int .i64 a, .int .i64 b]] w fun e w' => ∃ A' n' c', e = .returned (.tuple #[.slice A' n' c', .int .i64 (putOut (p, a, b) l).1]) ∧ Own w' w.heap.size 132 3 A' n' c' (rls (putOut (p, a, b) l).2) ∧ Below w.heap.size w w' := by
  have hln : l.length = n := h.rlen
  by_cases h1 : oneErr (p, a, b) = 0
  · have hPn : posR p l ≤ n := by rw [← hln]; exact posR_le p l
    cases hh : hasR p l with
    | false =>
      have hk := hasR_none hh
      by_cases e16 : n = 16
      · rw [put_full (r := (p, a, b)) hok h1 hk (hln.trans e16)]
        exact (bput_full h hok p a b hp h1 rfl hPn hh e16).mono fun e w' ⟨h2, h3⟩ => ⟨none, 0, 0, h2, Own.nil _ _ _ _, h3⟩
      · rw [put_in (r := (p, a, b)) hok h1 hk (by have := hok.len; omega)]
        exact (bput_in h hok p a b hp h1 rfl hPn hh e16).mono fun e w' ⟨A', c', h2, h3, h4⟩ => ⟨A', _, c', h2, h3, h4⟩
    | true =>
      obtain ⟨⟨q, x, y⟩, hq, hqp⟩ := hasR_some hok.up hh
      dsimp only at hqp
      have hlt : posR p l < n := by rw [← hln]; exact (List.getElem?_eq_some_iff.1 hq).1
      cases hn : newer (p, a, b) (q, x, y) with
      | true =>
        rw [put_new (r := (p, a, b)) hok h1 hq hqp hn]
        exact (bput_new h hok p a b hp h1 rfl hlt hh hq hn).mono fun e w' ⟨A', c', h2, h3, h4⟩ => ⟨A', _, c', h2, h3, h4⟩
      | false =>
        subst hqp
        by_cases he : a = x ∧ b = y
        · obtain ⟨rfl, rfl⟩ := he
          rw [put_same (r := (q, a, b)) hok h1 hq]
          exact (bput_same h hok q a b hp h1 rfl hlt hh hq hn).mono fun e w' ⟨A', c', h2, h3, h4⟩ => ⟨A', _, c', h2, h3, h4⟩
        · have hn2 : newer (q, x, y) (q, a, b) = true := by
            rcases newer_or (r := (q, a, b)) (s := (q, x, y)) rfl with h9 | h9 | h9
            · rw [hn] at h9; cases h9
            · exact h9
            · simp only [Prod.mk.injEq, true_and] at h9; exact absurd h9 he
          have hlk : look q l = some (q, x, y) := by rw [look_at q hok.up, hq]; dsimp only; rw [if_pos rfl]
          rw [put_old (r := (q, a, b)) h1 hlk hn2]
          exact (bput_old h hok q a b hp h1 rfl hlt hh hq hn he).mono fun e w' ⟨h2, h3⟩ => ⟨none, 0, 0, h2, Own.nil _ _ _ _, h3⟩
  · rw [put_bad (r := (p, a, b)) h1]
    exact (bput_arg h hok p a b hp rfl h1).mono fun e w' ⟨h2, h3⟩ => ⟨none, 0, 0, h2, Own.nil _ _ _ _, h3⟩

end
end Go.Proofs.YtjpbjghdplbdcaaGreatDoor
end
