/- Proves the parts of the claim that its last text joins: Few7. Conditions: those that each theorem names. -/
import Derived.Test.YtjpbjghdplbdcaaGreatDoorM22
import Derived.Test.YtjpbjghdplbdcaaGreatDoorM28
section
namespace Go.Proofs.YtjpbjghdplbdcaaGreatDoor
open Go.RowKit
theorem addC_bnd {K L key v : Int} {n : Nat} {l : List Ct} (hok : FwOk K L n l) (h1 : 1 ≤ v) (h2 : v ≤ 1000000000000) : ∀ p ∈ addC key v l, 1 ≤ p.2 ∧ p.2 ≤ 2000000000000 := by
  intro p hp
  rcases addC_mem hp with h | h | ⟨q, h, e⟩
  · have := hok.cnt p h; omega
  · omega
  · have := hok.cnt q h; omega
section
variable {A : Option Addr} {n c : Nat} {l : List Ct} {w : World} {K L key v : Int}
set_option maxRecDepth 20000 in
set_option maxHeartbeats 6400000 in
theorem fput_big (h : Sp w A n c l) (hok : FwOk K L n l) (h0 : fwErr K L n l = 0) (hv1 : 1 ≤ v) (hv2 : v ≤ 1000000000000) (hlen : K < ((addC key v l).length : Int)) :
    Calls Tryz.prog 193 #[.agg #[.int .i64 K, .int .i64 L, .slice A n c], .int .i64 key, .int .i64 v] w fun e w' => ∃ E K' L' A' n' c' l', e = .returned (.tuple #[.agg #[.int .i64 K', .int .i64 L', .slice A' n' c'], .int .i64 E]) ∧ Own w' w.heap.size 128 2 A' n' c' (prs l') ∧ (∃ d, LeastC (addC key v l) (addC key v l).length d ∧ finC K (L + d.2) (lessC d.2 (addC key v l)) = (E, K', L', l')) ∧ Below w.heap.size w w' := by
  obtain ⟨p0, r0⟩ := fewTwo w #[.int .i64 K, .int .i64 L, .slice A n c]
  have hb0 : Below w.heap.size w ((w.alloc (.cells #[.int .i64 K, .int .i64 L, .slice A n c] 42)).alloc (.cells noFew 42)) := by repeat' (first | assumption | with_reducible exact Below.refl _ _ | with_reducible apply Below.drew | with_reducible apply below_drewN | with_reducible apply below_alloc | with_reducible refine below_set ?_ ?_ _ | (simp only [World.size_alloc, World.heap_drewN]; omega) | (simp; omega))
  have CC := hide (fcheck_any K L (h.on hb0))
  rw [h0] at CC
  have hn16 : n ≤ 16 := by have := hok.nk; have := hok.k2; omega
  have hcb : ∀ p ∈ l, 0 ≤ p.2 ∧ p.2 ≤ 4000000000000000000 := fun p hp => by have := hok.cnt p hp; omega
  have CA := hide (fun w' (hb : Below w.heap.size w w') => added_any (key := key) (v := v) (h.on hb) hok.up hcb (by omega) hv2 (by omega))
  have hal := addC_len key v l
  rw [h.plen] at hal
  have HOK := hide hok
  have HBD := hide (addC_bnd (key := key) hok hv1 hv2)
  obtain ⟨M, hM⟩ : ∃ M, addC key v l = M := ⟨_, rfl⟩
  have HM := hide hM
  rw [hM] at HBD
  rw [hM] at CA hal hlen
  obtain ⟨N, hN⟩ : ∃ N, M.length = N := ⟨_, rfl⟩
  rw [hN] at CA hal hlen
  have HN := hide hN
  clear hok h0 hM hN hcb
  go_enter Tryz.func193, Tryz.ntmps193
  go_wp2_with fail
  refine CC.out.mono ?_
  rintro e w1 ⟨rfl, b1⟩
  have r1 := r0.below b1 r0.lt
  have p1 := p0.below b1 p0.lt
  have k1 := below_on hb0 b1
  have l0 := p1.lt
  have lr := r1.lt
  have f0 := p1.at_ (i := 0) (u := .int .i64 K) rfl
  have f1 := p1.at_ (i := 1) (u := .int .i64 L) rfl
  have f2 := p1.at_ (i := 2) (u := .slice A n c) rfl
  have t1 : ¬ v < 1 := by omega
  have t2 : ¬ 1000000000000 < v := by omega
  clear p0 r0 b1 hb0 CC
  go_upto_region 6 with fail
  go_cut [9] (fun s9 wx => ∃ g A' c', s9 = .pointer (some ⟨g, 0, none⟩) ∧ Blk wx g 42 #[.int .i64 K, .int .i64 L, .slice A' N c'] ∧ Own wx w1.heap.size 128 2 A' N c' (prs M) ∧ w1.heap.size ≤ g ∧ Below w1.heap.size w1 wx)
  case first =>
    go_region_held3 (fun w' => Below w1.heap.size w1 w' ∧ w'.cell? ⟨w.heap.size, 0, none⟩ = some (.int .i64 K) ∧ w'.cell? ⟨w.heap.size, 1, none⟩ = some (.int .i64 L) ∧ w'.cell? ⟨w.heap.size, 2, none⟩ = some (.slice A n c)) ((refine keep3 l0 f0 f1 f2 ?_; repeat' (first | assumption | with_reducible exact Below.refl _ _ | with_reducible apply Below.drew | with_reducible apply below_drewN | with_reducible apply below_alloc | with_reducible refine below_set ?_ ?_ _ | (simp only [World.size_alloc, World.heap_drewN]; omega) | (simp; omega))))
      (first | (go_at_call 243; refine (CA.out _ (below_on k1 (by repeat' (first | assumption | with_reducible exact Below.refl _ _ | with_reducible apply Below.drew | with_reducible apply below_drewN | with_reducible apply below_alloc | with_reducible refine below_set ?_ ?_ _ | (simp only [World.size_alloc, World.heap_drewN]; omega) | (simp; omega))))).mono ?_; rintro e w2 ⟨A', c', rfl, hown, hb2⟩; have hw2 : Below w1.heap.size w1 w2 := below_on (by repeat' (first | assumption | with_reducible exact Below.refl _ _ | with_reducible apply Below.drew | with_reducible apply below_drewN | with_reducible apply below_alloc | with_reducible refine below_set ?_ ?_ _ | (simp only [World.size_alloc, World.heap_drewN]; omega) | (simp; omega))) hb2; have hz2 := hw2.size; obtain ⟨hc2, hf2⟩ := bcell hb2))
    all_goals go_wp2_with fail
    · go_meet
      refine ⟨w2.heap.size, A', c', rfl, ?_, ?_, hz2, ?_⟩
      · exact Blk.new _ _ _
      · exact (hown.alloc _).mono (by simp)
      · repeat' (first | assumption | with_reducible exact Below.refl _ _ | with_reducible apply Below.drew | with_reducible apply below_drewN | with_reducible apply below_alloc | with_reducible refine below_set ?_ ?_ _ | (simp only [World.size_alloc, World.heap_drewN]; omega) | (simp; omega))
    · go_meet
      refine ⟨w1.heap.size, A', c', rfl, ?_, ?_, Nat.le_refl _, by repeat' (first | assumption | with_reducible exact Below.refl _ _ | with_reducible apply Below.drew | with_reducible apply below_drewN | with_reducible apply below_alloc | with_reducible refine below_set ?_ ?_ _ | (simp only [World.size_alloc, World.heap_drewN]; omega) | (simp; omega))⟩
      · have hb := (((Blk.new w1 42 #[.int .i64 0, .int .i64 0, .slice none 0 0]).drew.below hb2 (by simp)).set 0 (.int .i64 K) |>.set 1 (.int .i64 L)) |>.set 2 (.slice A' N c')
        simpa using hb
      · exact (((hown.low (by simp) _).low (by simp) _).low (by simp) _).mono (by simp)
  case rest =>
    obtain ⟨g, A', c', rfl, hblk, hown, hg, hbc⟩ := hcut
    have hwc : Below w.heap.size w wc := below_on k1 hbc
    have hzc := hbc.size
    have rb := r1.below hbc lr
    have hgl := hblk.lt
    have q0 := hblk.at_ (i := 0) (u := .int .i64 K) rfl
    have q1 := hblk.at_ (i := 1) (u := .int .i64 L) rfl
    have q2 := hblk.at_ (i := 2) (u := .slice A' N c') rfl
    have ng1 : ¬ w.heap.size + 1 = g := by omega
    have ng2 : ¬ g = w.heap.size + 1 := by omega
    obtain ⟨wo, rfl⟩ : ∃ wo : World, wo = wc := ⟨_, rfl⟩
    clear f0 f1 f2 p1 r1 CA
    have t3 : K < (N : Int) := hlen
    have hN0 : 0 < N := by have := HOK.out.k1; omega
    have CMI := hide (minf_any hown.sl hN0 (fun p hp => by have := HBD.out p hp; omega) (by omega))
    have hL1 := HOK.out.l1
    have hL2 := HOK.out.l2
    go_wp2_with fail
    refine CMI.out.mono ?_
    rintro e w3 ⟨k0, d, rfl, hld, b3⟩
    have HLD := hide hld
    obtain ⟨d1, d2⟩ := HBD.out _ hld.1
    have r3 := rb.below b3 rb.lt
    have g3 := hblk.below b3 hblk.lt
    have o3 := hown.below b3 (Nat.le_refl _)
    have k3 := below_on hwc b3
    have CLS := hide (fun w' (hb : Below w3.heap.size w3 w') => less_any (d := d) (o3.sl.on hb) (by omega) (by omega) (fun p hp => by have := HBD.out p hp; omega) (by omega))
    have lg := g3.lt
    have lr3 := r3.lt
    have x1 := g3.at_ (i := 1) (u := .int .i64 L) rfl
    have x2 := g3.at_ (i := 2) (u := .slice A' N c') rfl
    have y1 := g3.free 1
    have y2 := g3.free 2
    have ez : IntKind.i64.wrap (L + d) = L + d := IntWalk.i64_in _ (by omega)
    clear q0 q1 q2 hblk hown rb b3 hld CMI
    have hfd : ∀ W : World, (Instr.field 128 (.agg #[.int .i64 k0, .int .i64 d]) 1).run Tryz.prog W = .ok (.int .i64 d) W := fun _ => by kernel_rfl
    go_wp2_with fail
    refine anyTill.begin (S := Till (fun _ => True) (fun w' => w'.cell? ⟨g, 1, none⟩ = some (.int .i64 L) ∧ w'.cell? ⟨g, 2, none⟩ = some (.slice A' N c')) [9]) (by kernel_rfl) ?_
    refine anyTill.last (i := 0) (oi := { dst := some 44, op := Op.fieldAddr 42 (Operand.tmp 9) 2, type := 0, pos := "few.go:75", after := #[], guard := none }) (v := ?_) rfl (by kernel_rfl) (by kernel_rfl) (by kernel_rfl) (fun _ _ _ h => h) (by rfl) (Or.inl ⟨by rfl, ?_⟩) ⟨by trivial, fun _ => by (refine ⟨kept (B := w3.heap.size) (p := ⟨g, 1, none⟩) lg x1 ?_, kept (B := w3.heap.size) (p := ⟨g, 2, none⟩) lg x2 ?_⟩ <;> repeat' (first | assumption | with_reducible exact Below.refl _ _ | with_reducible apply Below.drew | with_reducible apply below_drewN | with_reducible apply below_alloc | with_reducible refine below_set ?_ ?_ _ | (simp only [World.size_alloc, World.heap_drewN]; omega) | (simp; omega)))⟩ (fun hS => ?_)
    rotate_left
    · (intro w hSw; (try dsimp only at hSw); go_split_ands; go_simp; try with_reducible rfl)
    try simp only [Act.put, List.setIfInBounds_toArray, List.set_cons_zero, List.set_cons_succ]
    refine anyTill.soon 9 (i := 1) (oi := { dst := some 45, op := Op.load 40 (Operand.tmp 44), type := 40, pos := "few.go:75", after := #[{ on := 0, ground := Ground.data }], guard := none }) (v := ?_) rfl (by kernel_rfl) (by kernel_rfl) (by kernel_rfl) (by kernel_rfl) (by rfl) (by rfl) (fun _ _ _ h => h) (by rfl) (Or.inl ⟨by rfl, ?_⟩) hS (fun hS => ?_)
    rotate_left
    · (intro w hSw; (try dsimp only at hSw); go_split_ands; go_simp; try with_reducible rfl)
    try simp only [Act.put, List.setIfInBounds_toArray, List.set_cons_zero, List.set_cons_succ]
    refine anyTill.last (i := 2) (oi := { dst := some 46, op := Op.move (Operand.tmp 10), type := 3, pos := "few.go:75", after := #[], guard := none }) (v := ?_) rfl (by kernel_rfl) (by kernel_rfl) (by kernel_rfl) (fun _ _ _ h => h) (by rfl) (Or.inl ⟨by rfl, ?_⟩) hS (fun hS => ?_)
    rotate_left
    · (intro w hSw; (try dsimp only at hSw); go_split_ands; go_simp; try with_reducible rfl)
    try simp only [Act.put, List.setIfInBounds_toArray, List.set_cons_zero, List.set_cons_succ]
    refine anyTill.last (i := 4) (oi := { dst := some 48, op := Op.fieldAddr 42 (Operand.tmp 9) 1, type := 0, pos := "few.go:75", after := #[], guard := none }) (v := ?_) rfl (by kernel_rfl) (by kernel_rfl) (by kernel_rfl) (fun _ _ _ h => h) (by rfl) (Or.inl ⟨by rfl, ?_⟩) hS (fun hS => ?_)
    rotate_left
    · (intro w hSw; (try dsimp only at hSw); go_split_ands; go_simp; try with_reducible rfl)
    try simp only [Act.put, List.setIfInBounds_toArray, List.set_cons_zero, List.set_cons_succ]
    refine anyTill.soon 9 (i := 5) (oi := { dst := some 49, op := Op.load 3 (Operand.tmp 48), type := 3, pos := "few.go:75", after := #[{ on := 4, ground := Ground.data }], guard := none }) (v := ?_) rfl (by kernel_rfl) (by kernel_rfl) (by kernel_rfl) (by kernel_rfl) (by rfl) (by rfl) (fun _ _ _ h => h) (by rfl) (Or.inl ⟨by rfl, ?_⟩) hS (fun hS => ?_)
    rotate_left
    · (intro w hSw; (try dsimp only at hSw); go_split_ands; go_simp; try with_reducible rfl)
    try simp only [Act.put, List.setIfInBounds_toArray, List.set_cons_zero, List.set_cons_succ]
    refine anyTill.last (i := 6) (oi := { dst := some 50, op := Op.move (Operand.tmp 10), type := 3, pos := "few.go:75", after := #[], guard := none }) (v := ?_) rfl (by kernel_rfl) (by kernel_rfl) (by kernel_rfl) (fun _ _ _ h => h) (by rfl) (Or.inl ⟨by rfl, ?_⟩) hS (fun hS => ?_)
    rotate_left
    · (intro w hSw; (try dsimp only at hSw); go_split_ands; go_simp; try with_reducible rfl)
    try simp only [Act.put, List.setIfInBounds_toArray, List.set_cons_zero, List.set_cons_succ]
    refine anyTill.last (i := 7) (oi := { dst := some 51, op := Op.binOp BinOp.add 3 (Operand.tmp 49) (Operand.tmp 50) 3, type := 3, pos := "few.go:75", after := #[{ on := 5, ground := Ground.data }, { on := 6, ground := Ground.data }], guard := none }) (v := ?_) rfl (by kernel_rfl) (by kernel_rfl) (by kernel_rfl) (fun _ _ _ h => h) (by rfl) (Or.inl ⟨by rfl, ?_⟩) hS (fun hS => ?_)
    rotate_left
    · (intro w hSw; (try dsimp only at hSw); go_split_ands; go_simp; try with_reducible rfl)
    try simp only [Act.put, List.setIfInBounds_toArray, List.set_cons_zero, List.set_cons_succ]
    refine anyTill.ready (rs := [3]) (by kernel_rfl) (by simp) ?_
    refine AllTill.cons (o := { dst := some 47, op := Op.call { callee := Callee.value (Operand.func 246), args := #[Operand.tmp 45, Operand.tmp 46], argTypes := #[40, 3] }, type := 40, pos := "few.go:75", after := #[{ on := 1, ground := Ground.data }, { on := 2, ground := Ground.data }], guard := none }) rfl (fun K hK => ?_) AllTill.nil
    · clear hS
      go_wp2_with fail
      go_at_call 246
      refine (CLS.out _ (by repeat' (first | assumption | with_reducible exact Below.refl _ _ | with_reducible apply Below.drew | with_reducible apply below_drewN | with_reducible apply below_alloc | with_reducible refine below_set ?_ ?_ _ | (simp only [World.size_alloc, World.heap_drewN]; omega) | (simp; omega)))).mono ?_
      rintro e w5 ⟨A5, c5, rfl, own5, hb5⟩
      have own5 := own5.mono (base' := w3.heap.size) (Nat.le_refl _)
      have hb5 : Below w3.heap.size w3 w5 := below_on (by repeat' (first | assumption | with_reducible exact Below.refl _ _ | with_reducible apply Below.drew | with_reducible apply below_drewN | with_reducible apply below_alloc | with_reducible refine below_set ?_ ?_ _ | (simp only [World.size_alloc, World.heap_drewN]; omega) | (simp; omega))) hb5
      have hz5 := hb5.size
      obtain ⟨bc5, bf5⟩ := bcell hb5
      have g5 := g3.below hb5 lg
      refine hK.out _ _ ⟨by trivial, fun _ => by (refine ⟨kept (B := w3.heap.size) (p := ⟨g, 1, none⟩) lg x1 ?_, kept (B := w3.heap.size) (p := ⟨g, 2, none⟩) lg x2 ?_⟩ <;> repeat' (first | assumption | with_reducible exact Below.refl _ _ | with_reducible apply Below.drew | with_reducible apply below_drewN | with_reducible apply below_alloc | with_reducible refine below_set ?_ ?_ _ | (simp only [World.size_alloc, World.heap_drewN]; omega) | (simp; omega)))⟩ (fun hS => ?_)
      clear hK K
      try simp only [Act.put, List.setIfInBounds_toArray, List.set_cons_zero, List.set_cons_succ]
      refine anyTill.last (i := 8) (oi := { dst := some 52, op := Op.fieldAddr 42 (Operand.tmp 9) 2, type := 0, pos := "few.go:75", after := #[{ on := 0, ground := Ground.phase }, { on := 1, ground := Ground.phase }, { on := 2, ground := Ground.phase }, { on := 3, ground := Ground.phase }, { on := 4, ground := Ground.phase }, { on := 5, ground := Ground.phase }, { on := 6, ground := Ground.textOnly Departure.lateStores }, { on := 7, ground := Ground.textOnly Departure.lateStoresUnsure }], guard := none }) (v := ?_) rfl (by kernel_rfl) (by kernel_rfl) (by kernel_rfl) (fun _ _ _ h => h) (by rfl) (Or.inl ⟨by rfl, ?_⟩) hS (fun hS => ?_)
      rotate_left
      · (intro w hSw; (try dsimp only at hSw); go_split_ands; go_simp; try with_reducible rfl)
      try simp only [Act.put, List.setIfInBounds_toArray, List.set_cons_zero, List.set_cons_succ]
      refine anyTill.ready (rs := [9]) (by kernel_rfl) (by simp) ?_
      refine AllTill.cons (o := { dst := none, op := Op.store 40 (Operand.tmp 52) (Operand.tmp 47), type := 0, pos := "few.go:75", after := #[{ on := 8, ground := Ground.data }, { on := 3, ground := Ground.data }, { on := 3, ground := Ground.chain }, { on := 0, ground := Ground.phase }, { on := 1, ground := Ground.phase }, { on := 2, ground := Ground.phase }, { on := 3, ground := Ground.phase }, { on := 4, ground := Ground.phase }, { on := 5, ground := Ground.phase }, { on := 6, ground := Ground.textOnly Departure.lateStores }, { on := 7, ground := Ground.textOnly Departure.lateStoresUnsure }], guard := none }) rfl (fun K hK => ?_) AllTill.nil
      · clear hS
        go_simp
        refine hK.out _ _ (Till.over (by rfl) (by trivial)) (fun hS => ?_)
        clear hK K
        try simp only [Act.put, List.setIfInBounds_toArray, List.set_cons_zero, List.set_cons_succ]
        refine anyTill.last (i := 10) (oi := { dst := some 53, op := Op.fieldAddr 42 (Operand.tmp 9) 1, type := 0, pos := "few.go:75", after := #[{ on := 0, ground := Ground.phase }, { on := 1, ground := Ground.phase }, { on := 2, ground := Ground.phase }, { on := 3, ground := Ground.phase }, { on := 4, ground := Ground.phase }, { on := 5, ground := Ground.phase }, { on := 6, ground := Ground.phase }, { on := 7, ground := Ground.phase }, { on := 8, ground := Ground.phase }, { on := 9, ground := Ground.phase }], guard := none }) (v := ?_) rfl (by kernel_rfl) (by kernel_rfl) (by kernel_rfl) (fun _ _ _ h => h) (by rfl) (Or.inl ⟨by rfl, ?_⟩) hS (fun hS => ?_)
        rotate_left
        · (intro w hSw; (try dsimp only at hSw); go_split_ands; go_simp; try with_reducible rfl)
        try simp only [Act.put, List.setIfInBounds_toArray, List.set_cons_zero, List.set_cons_succ]
        refine anyTill.ready (rs := [11]) (by kernel_rfl) (by simp) ?_
        refine AllTill.cons (o := { dst := none, op := Op.store 3 (Operand.tmp 53) (Operand.tmp 51), type := 0, pos := "few.go:75", after := #[{ on := 10, ground := Ground.data }, { on := 7, ground := Ground.data }, { on := 9, ground := Ground.chain }, { on := 0, ground := Ground.phase }, { on := 1, ground := Ground.phase }, { on := 2, ground := Ground.phase }, { on := 3, ground := Ground.phase }, { on := 4, ground := Ground.phase }, { on := 5, ground := Ground.phase }, { on := 6, ground := Ground.phase }, { on := 7, ground := Ground.phase }, { on := 8, ground := Ground.phase }, { on := 9, ground := Ground.phase }], guard := none }) rfl (fun K hK => ?_) AllTill.nil
        · clear hS
          go_simp
          refine hK.out _ _ (Till.over (by rfl) (by trivial)) (fun hS => ?_)
          clear hK K
          try simp only [Act.put, List.setIfInBounds_toArray, List.set_cons_zero, List.set_cons_succ]
          refine anyTill.fin (by kernel_rfl) ?_ _
          have hbb := (g5.set 2 (.slice A5 (lessC d M).length c5)).set 1 (.int .i64 (L + d))
          have hblk : Blk ((w5.setCell ⟨g, 2, none⟩ (.slice A5 (lessC d M).length c5)).setCell ⟨g, 1, none⟩ (.int .i64 (L + d))) g 42 #[.int .i64 K, .int .i64 (L + d), .slice A5 (lessC d M).length c5] := by simpa using hbb
          have hgo : ∀ g', A5 = some ⟨g', 0, none⟩ → g' ≠ g := fun g' e1 => by have := (own5.blk (g := g') (by rw [e1]; rfl)).1; omega
          have hown : Own ((w5.setCell ⟨g, 2, none⟩ (.slice A5 (lessC d M).length c5)).setCell ⟨g, 1, none⟩ (.int .i64 (L + d))) (w.heap.size + 2) 128 2 A5 (lessC d M).length c5 (prs (lessC d M)) := ((own5.far (p := ⟨g, 2, none⟩) hgo _).far (p := ⟨g, 1, none⟩) hgo _).mono (by omega)
          have k5 := below_on k3 hb5
          have hwc : Below w.heap.size w ((w5.setCell ⟨g, 2, none⟩ (.slice A5 (lessC d M).length c5)).setCell ⟨g, 1, none⟩ (.int .i64 (L + d))) := below_set (below_set k5 (by dsimp only; omega) _) (by dsimp only; omega) _
          have rb : Blk ((w5.setCell ⟨g, 2, none⟩ (.slice A5 (lessC d M).length c5)).setCell ⟨g, 1, none⟩ (.int .i64 (L + d))) (w.heap.size + 1) 42 noFew := ((r3.below hb5 lr3).far (p := ⟨g, 2, none⟩) (by dsimp only; omega) _).far (p := ⟨g, 1, none⟩) (by dsimp only; omega) _
          generalize ((w5.setCell ⟨g, 2, none⟩ (.slice A5 (lessC d M).length c5)).setCell ⟨g, 1, none⟩ (.int .i64 (L + d))) = wo at hblk hown hwc rb ⊢
          have q0 := hblk.at_ (i := 0) (u := .int .i64 K) rfl
          have q1 := hblk.at_ (i := 1) (u := .int .i64 (L + d)) rfl
          have q2 := hblk.at_ (i := 2) (u := .slice A5 (lessC d M).length c5) rfl
          obtain ⟨M5, hM5⟩ : ∃ M5, lessC d M = M5 := ⟨_, rfl⟩
          have HM5 := hide hM5
          rw [hM5] at hown q2 hblk ⊢
          obtain ⟨n5, hn5⟩ : ∃ n5, M5.length = n5 := ⟨_, rfl⟩
          have HN5 := hide hn5
          rw [hn5] at hown q2 hblk ⊢
          clear hbb g5 hgo own5 hb5 k5 bc5 bf5 hM5 hn5 x1 x2 y1 y2 g3 r3 o3 k3 CLS hS hz5
          have CK := hide (fcheck_any K (L + d) hown.sl)
          by_cases hE : fwErr K (L + d) n5 M5 = 0
          · rw [hE] at CK
            have HE := hide hE
            clear hE
            go_wp2_with fail
            refine CK.out.mono ?_
            rintro e w9 ⟨rfl, b9⟩
            have r9 := rb.below b9 rb.lt
            have g9 := hblk.below b9 hblk.lt
            have s9 := (hown.sl).on b9
            have k9 := below_on hwc b9
            have z0 := r9.at_ (i := 0) (u := .int .i64 0) rfl
            have z1 := r9.at_ (i := 1) (u := .int .i64 0) rfl
            have z2 := r9.at_ (i := 2) (u := .slice none 0 0) rfl
            have y0 := r9.free 0
            have y1 := r9.free 1
            have y2 := r9.free 2
            have x0 := g9.at_ (i := 0) (u := .int .i64 K) rfl
            have x1 := g9.at_ (i := 1) (u := .int .i64 (L + d)) rfl
            have x2 := g9.at_ (i := 2) (u := .slice A5 n5 c5) rfl
            clear q0 q1 q2 hblk rb CK
            go_wp2_with fail
            have bf : Blk (((w9.setCell ⟨w.heap.size + 1, 0, none⟩ (.int .i64 K)).setCell ⟨w.heap.size + 1, 1, none⟩ (.int .i64 (L + d))).setCell ⟨w.heap.size + 1, 2, none⟩ (.slice A5 n5 c5)) (w.heap.size + 1) 42 #[.int .i64 K, .int .i64 (L + d), .slice A5 n5 c5] := by
              simpa [noFew] using ((r9.set 0 (.int .i64 K)).set 1 (.int .i64 (L + d))).set 2 (.slice A5 n5 c5)
            have hbf : Below w.heap.size w (((w9.setCell ⟨w.heap.size + 1, 0, none⟩ (.int .i64 K)).setCell ⟨w.heap.size + 1, 1, none⟩ (.int .i64 (L + d))).setCell ⟨w.heap.size + 1, 2, none⟩ (.slice A5 n5 c5)) :=
              below_set (below_set (below_set k9 (by dsimp only; omega) _) (by dsimp only; omega) _) (by dsimp only; omega) _
            have sf : Own (((w9.setCell ⟨w.heap.size + 1, 0, none⟩ (.int .i64 K)).setCell ⟨w.heap.size + 1, 1, none⟩ (.int .i64 (L + d))).setCell ⟨w.heap.size + 1, 2, none⟩ (.slice A5 n5 c5)) w.heap.size 128 2 A5 n5 c5 (prs M5) := by
              have o9 := hown.below b9 (Nat.le_refl _)
              have hne : ∀ g', A5 = some ⟨g', 0, none⟩ → g' ≠ w.heap.size + 1 := fun g' e1 => by have := (o9.blk (g := g') (by rw [e1]; rfl)).1; omega
              exact (((o9.far (p := ⟨w.heap.size + 1, 0, none⟩) hne _).far (p := ⟨w.heap.size + 1, 1, none⟩) hne _).far (p := ⟨w.heap.size + 1, 2, none⟩) hne _).mono (by first | omega | (have := k1.size; omega))
            clear z0 z1 z2 y0 y1 y2 x0 x1 x2
            generalize (((w9.setCell ⟨w.heap.size + 1, 0, none⟩ (.int .i64 K)).setCell ⟨w.heap.size + 1, 1, none⟩ (.int .i64 (L + d))).setCell ⟨w.heap.size + 1, 2, none⟩ (.slice A5 n5 c5)) = wf at bf hbf sf ⊢
            have z0 := bf.at_ (i := 0) (u := .int .i64 K) rfl
            have z1 := bf.at_ (i := 1) (u := .int .i64 (L + d)) rfl
            have z2 := bf.at_ (i := 2) (u := .slice A5 n5 c5) rfl
            exact bodyPost_ret (v := .tuple #[.agg #[.int .i64 K, .int .i64 (L + d), .slice A5 n5 c5], .int .i64 0]) (by simp [results, Tryz.results193, go_sem, z0, z1, z2]) rfl ⟨0, K, L + d, A5, n5, c5, M5, rfl, sf, ⟨(k0, d), by rw [HM.out, HN.out]; exact HLD.out, by rw [HM.out, HM5.out]; exact finC_yes HN5.out HE.out⟩, hbf⟩
          · obtain ⟨E, hEE⟩ : ∃ E, fwErr K (L + d) n5 M5 = E := ⟨_, rfl⟩
            rw [hEE] at CK hE
            have t9 : (E != 0) = true := by simpa using hE
            have HE := hide (show fwErr K (L + d) n5 M5 ≠ 0 by rw [hEE]; exact hE)
            clear hE hEE
            go_wp2_with fail
            refine CK.out.mono ?_
            rintro e w9 ⟨rfl, b9⟩
            have r9 := rb.below b9 rb.lt
            have k9 := below_on hwc b9
            have z0 := r9.at_ (i := 0) (u := .int .i64 0) rfl
            have z1 := r9.at_ (i := 1) (u := .int .i64 0) rfl
            have z2 := r9.at_ (i := 2) (u := .slice none 0 0) rfl
            have y0 := r9.free 0
            have y1 := r9.free 1
            have y2 := r9.free 2
            clear q0 q1 q2 hblk rb b9 CK
            go_wp2_with fail
            have bf : Blk (((w9.setCell ⟨w.heap.size + 1, 0, none⟩ (.int .i64 0)).setCell ⟨w.heap.size + 1, 1, none⟩ (.int .i64 0)).setCell ⟨w.heap.size + 1, 2, none⟩ (.slice none 0 0)) (w.heap.size + 1) 42 noFew := by
              simpa [noFew] using ((r9.set 0 (.int .i64 0)).set 1 (.int .i64 0)).set 2 (.slice none 0 0)
            have hbf : Below w.heap.size w (((w9.setCell ⟨w.heap.size + 1, 0, none⟩ (.int .i64 0)).setCell ⟨w.heap.size + 1, 1, none⟩ (.int .i64 0)).setCell ⟨w.heap.size + 1, 2, none⟩ (.slice none 0 0)) :=
              below_set (below_set (below_set k9 (by dsimp only; omega) _) (by dsimp only; omega) _) (by dsimp only; omega) _
            clear z0 z1 z2 y0 y1 y2
            generalize (((w9.setCell ⟨w.heap.size + 1, 0, none⟩ (.int .i64 0)).setCell ⟨w.heap.size + 1, 1, none⟩ (.int .i64 0)).setCell ⟨w.heap.size + 1, 2, none⟩ (.slice none 0 0)) = wf at bf hbf ⊢
            have z0 := bf.at_ (i := 0) (u := .int .i64 0) rfl
            have z1 := bf.at_ (i := 1) (u := .int .i64 0) rfl
            have z2 := bf.at_ (i := 2) (u := .slice none 0 0) rfl
            exact bodyPost_ret (v := .tuple #[.agg noFew, .int .i64 2]) (by simp [results, Tryz.results193, go_sem, z0, z1, z2]) rfl ⟨2, 0, 0, none, 0, 0, [], rfl, Own.nil _ _ _ _, ⟨(k0, d), by rw [HM.out, HN.out]; exact HLD.out, by rw [HM.out, HM5.out]; exact finC_no HN5.out HE.out⟩, hbf⟩
          
end
end Go.Proofs.YtjpbjghdplbdcaaGreatDoor
end
