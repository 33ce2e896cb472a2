/-
  culref.Fewer: the walk. Conditions: the map holds few counters; their bounds.
-/
import Derived.Test.YtfopihlbdceepaaGreatFewerP
import Derived.Test.YtfopihlbdceepaaGreatFew2
namespace Go.Proofs.YtfopihlbdceepaaGreat
open Go.RowKit Go.Shelf Go.Maps

/-- What Fewer hands back of the counters of a map. -/
def Fewed (k : Nat) (L : Int) (m : List Ct) (y : Int × Int × Int × List Ct) : Prop :=
  if m.length ≤ k then finC k L m = y else ∃ zs d, zs.Perm (m.map (·.2)) ∧ Down zs ∧ zs[k]? = some d ∧ finC k (L + d) (lessC d m) = y
theorem T_num : ElemT Tryz.prog 25 3 (.int .i64 0) 1 8 := ⟨Tryz.underlying25, by kernel_rfl, rfl, by decide⟩
section
variable {w : World} {bm N k : Nat} {L : Int} {m : List Ct}
set_option maxRecDepth 100000 in
set_option maxHeartbeats 12800000 in
theorem fewer_any (hmp : MapC Tryz.prog 3 3 w bm N m) (hu : UpK m) (hN : N ≤ 48) (hb : ∀ p ∈ m, 1 ≤ p.2 ∧ p.2 ≤ 1000000000000000) (hk1 : 1 ≤ k) (hk2 : k ≤ 16) (hL1 : 0 ≤ L) (hL2 : L ≤ 1000000000000000) :
    Calls Tryz.prog 9 #[.int .i64 k, .int .i64 L, .map (some bm)] w fun e w' => ∃ E K' L' A' n' c' l', e = .returned (.tuple #[.agg #[.int .i64 K', .int .i64 L', .slice A' n' c'], .int .i64 E]) ∧ Own w' w.heap.size 40 2 A' n' c' (prs l') ∧ Fewed k L m (E, K', L', l') ∧ Below w.heap.size w w' := by
  have HU := hide hu
  have HB := hide hb
  have hbl := hmp.lt
  obtain ⟨W0, hW0⟩ : ∃ W0, ((w.alloc (.cells noFew 24)).alloc (.cells #[.int .i64 k, .int .i64 L, .slice none 0 0] 24)).alloc (.cells #[.slice none 0 0] 22) = W0 := ⟨_, rfl⟩
  have bR : Blk W0 w.heap.size 24 noFew := by rw [← hW0]; exact ((Blk.new w _ _).alloc _).alloc _
  have bO : Blk W0 (w.heap.size + 1) 24 #[.int .i64 k, .int .i64 L, .slice none 0 0] := by
    have := (Blk.new (w.alloc (.cells noFew 24)) 24 #[.int .i64 k, .int .i64 L, .slice none 0 0]).alloc (.cells #[.slice none 0 0] 22)
    rw [World.size_alloc, hW0] at this; exact this
  have bT : Blk W0 (w.heap.size + 2) 22 #[.slice none 0 0] := by
    have := Blk.new ((w.alloc (.cells noFew 24)).alloc (.cells #[.int .i64 k, .int .i64 L, .slice none 0 0] 24)) 22 #[.slice none 0 0]
    rw [World.size_alloc, World.size_alloc, hW0] at this; exact this
  have hmp0 : MapC Tryz.prog 3 3 W0 bm N m := by rw [← hW0]; exact ((hmp.alloc _).alloc _).alloc _
  have hb0 : Below w.heap.size w W0 := by rw [← hW0]; repeat' (first | assumption | with_reducible exact Below.refl _ _ | with_reducible apply Below.drew | with_reducible apply below_drewN | with_reducible apply below_alloc | with_reducible refine below_set ?_ ?_ _ | (simp only [World.size_alloc, World.heap_drewN]; omega) | (simp; omega))
  have hz0 : W0.heap.size = w.heap.size + 3 := by rw [← hW0]; simp
  have HW0 := hide hW0
  clear hu hb hmp hW0
  go_enter Tryz.func9, Tryz.ntmps9
  go_upto_region 4 with fail
  have hW0 := HW0.out
  rw [hW0]
  clear HW0 hW0
  go_wp2_with (at_range; refine wpList_mapc_range rfl _ rfl hmp0 HU.out Kin Tryz.underlying36 rfl ?_; intro w0 cnt0 hrg0 hg0 hs0)
  go_frame
  rw [hz0] at hrg0 hs0 ⊢
  have bR1 := bR.grown hg0 (by simp)
  have bO1 := bO.grown hg0 (by simp)
  have bT1 := bT.grown hg0 (by simp)
  have hb1 := hb0.grown hg0 hb0.size (fun j hj => by cases hj)
  clear hmp0 bR bO bT hb0 hg0
  go_loopw [10] (fun s wx => ∃ (o : List Ct) (cnt no : Nat) (Ac Ai : Option Addr) (cc ci : Nat), s = .slice Ai no ci ∧ RanC Tryz.prog 3 3 wx bm (w.heap.size + 3) N m o cnt ∧ Own wx (w.heap.size + 4) 40 2 Ac no cc (prs o) ∧ Own wx (w.heap.size + 4) 3 1 Ai no ci (ints (o.map (·.2))) ∧ Blk wx w.heap.size 24 noFew ∧ Blk wx (w.heap.size + 1) 24 #[.int .i64 k, .int .i64 L, .slice none 0 0] ∧ Blk wx (w.heap.size + 2) 22 #[.slice Ac no cc] ∧ Below w.heap.size w wx) (fun _ wx => wx.rangeLeft bm (w.heap.size + 3))
  case atStart => exact ⟨[], cnt0, 0, none, none, 0, 0, rfl, hrg0, Own.nil _ _ _ _, Own.nil _ _ _ _, bR1, bO1, bT1, hb1⟩
  case round =>
    clear hrg0 bR1 bO1 bT1 hb1 hs0 hz0
    obtain ⟨o, cnt, no, Ac, Ai, cc, ci, rfl, hrg, oC, oI, bR, bO, bT, hbx⟩ := hrel
    have hnl : o.length = no := oC.sl.plen
    have hroom := hrg.room
    have hml := hrg.left_eq
    have hboC : ∀ x, blockOf Ac = some x → w.heap.size + 4 ≤ x := fun x hx => (oC.blk hx).1
    have hboI : ∀ x, blockOf Ai = some x → w.heap.size + 4 ≤ x := fun x hx => (oI.blk hx).1
    have hrl := hrg.lt
    have hap : Apart Ac Ai := Own.apart_type oC oI (by decide)
    go_wp2_with (at_next; refine wpList_mapc_next rfl _ rfl Kin Tryz.underlying3 Tryz.underlying3 HU.out rfl hrg ?_ ?_)
    · intro hall hdist
      have f0 := bT.at_ (i := 0) (u := .slice Ac no cc) rfl
      have hneT : blockOf Ac ≠ some (w.heap.size + 2) := fun e => by have := hboC _ e; omega
      have CS := hide (sort_counters oC f0 bT.lt hneT (by omega))
      have HU9 := hide (show ∀ o', o'.Perm o → NoLessC o' → o' = m from fun o' h1 h9 => sortedC_is h1 h9 hdist (fun s => hall s.1 s.2) HU.out)
      have hno48 : no ≤ 48 := by omega
      clear hall hdist hrg hml
      go_wp2_with fail
      refine CS.out.mono ?_
      rintro e w5 ⟨rfl, o', hperm, hsrt, oC5, hgr⟩
      have hom := HU9.out _ hperm hsrt
      subst hom
      have oI5 := oI.grown hgr (fun g hg e => hap g e (by rw [hg]; rfl))
      have bT5 := bT.grown hgr hneT
      have bR5 := bR.grown hgr (fun e => by have := hboC _ e; omega)
      have bO5 := bO.grown hgr (fun e => by have := hboC _ e; omega)
      have hb5 := hbx.grown hgr hbx.size (fun x hx => by have := hboC x hx; omega)
      have CRV := hide (fun W => reverse_any 55 (.slice Ai no ci) W)
      have hpm : (o.map (·.2)).Perm (o'.map (·.2)) := (hperm.map _).symm
      clear CS HU9 hsrt bT bR bO hbx hgr oC oI f0
      go_wp2_with fail
      refine (CRV.out _).mono ?_
      rintro e w6 ⟨rfl, hw6⟩
      have bx6 := Blk.new w5 78 #[.iface 55 (.slice Ai no ci)]
      have oI6 := oI5.alloc (.cells #[.iface 55 (.slice Ai no ci)] 78)
      have oC6 := oC5.alloc (.cells #[.iface 55 (.slice Ai no ci)] 78)
      have bT6 := bT5.alloc (.cells #[.iface 55 (.slice Ai no ci)] 78)
      have bR6 := bR5.alloc (.cells #[.iface 55 (.slice Ai no ci)] 78)
      have bO6 := bO5.alloc (.cells #[.iface 55 (.slice Ai no ci)] 78)
      have hb6 := below_alloc hb5 (.cells #[.iface 55 (.slice Ai no ci)] 78)
      rw [← hw6] at bx6 oI6 oC6 bT6 bR6 bO6 hb6
      clear hw6 oI5 oC5 bT5 bR5 bO5 hb5 CRV
      have CSR := hide (sortR_any bx6 oI6 (by omega))
      clear bx6
      go_wp2_with fail
      refine CSR.out.mono ?_
      rintro e w7 ⟨rfl, zs, hpz, hdz, slz, hgz⟩
      have hqz : ∀ g, g < w.heap.size + 4 → blockOf Ai ≠ some g := fun g hg e => by have := hboI g e; omega
      have oC7 := oC6.grown hgz (fun g hg e => hap g (by rw [hg]; rfl) e)
      have bT7 := bT6.grown hgz (hqz _ (by omega))
      have bR7 := bR6.grown hgz (hqz _ (by omega))
      have bO7 := bO6.grown hgz (hqz _ (by omega))
      have hb7 := hb6.grown hgz hb6.size (fun x hx => by have := hboI x hx; omega)
      have HPZ := hide (hpz.trans hpm)
      have HDZ := hide hdz
      have hlo : o'.length = no := oC7.sl.plen
      have HLO := hide hlo
      have hz7 := bT7.lt
      clear CSR oC6 bT6 bR6 bO6 hb6 hpz hpm hdz hgz hperm hroom hnl
      by_cases h16 : no ≤ k
      · have HG := hide (show o'.length ≤ k by omega)
        have t1 : ¬ (k : Int) < (no : Int) := by omega
        have q0 := bO7.at_ (i := 0) (u := .int .i64 (k : Int)) rfl
        have q1 := bO7.at_ (i := 1) (u := .int .i64 L) rfl
        have q2 := bO7.at_ (i := 2) (u := .slice none 0 0) rfl
        have q3 := bO7.free 2
        have q4 := bT7.at_ (i := 0) (u := .slice Ac no cc) rfl
        clear hlo slz HPZ HDZ
        go_upto_region 19 with fail
        have hblk : Blk (w7.setCell ⟨w.heap.size + 1, 2, none⟩ (.slice Ac no cc)) (w.heap.size + 1) 24 #[.int .i64 (k : Int), .int .i64 L, .slice Ac no cc] := by simpa using bO7.set 2 (.slice Ac no cc)
        have hown := oC7.low (p := ⟨w.heap.size + 1, 2, none⟩) (by dsimp only; omega) (.slice Ac no cc)
        have rb := bR7.far (p := ⟨w.heap.size + 1, 2, none⟩) (by dsimp only; omega) (.slice Ac no cc)
        have hwc : Below w.heap.size w (w7.setCell ⟨w.heap.size + 1, 2, none⟩ (.slice Ac no cc)) := below_set hb7 (by dsimp only; omega) _
        clear q0 q1 q2 q3 q4 oC7 bT7 bR7 bO7 hb7
        generalize (w7.setCell ⟨w.heap.size + 1, 2, none⟩ (.slice Ac no cc)) = w8 at hblk hown rb hwc ⊢
        have q0 := hblk.at_ (i := 0) (u := .int .i64 (k : Int)) rfl
        have q1 := hblk.at_ (i := 1) (u := .int .i64 L) rfl
        have q2 := hblk.at_ (i := 2) (u := .slice Ac no cc) rfl
        have CK := hide (rfew_any (k : Int) (L) hown.sl)
        by_cases hE : fwErr (k : Int) (L) no o' = 0
        · rw [hE] at CK
          have HE := hide hE
          clear hE
          go_wp2_with fail
          refine CK.out.mono ?_
          rintro e w9 ⟨rfl, b9⟩
          have r9 := rb.below b9 rb.lt
          have g9 := hblk.below b9 hblk.lt
          have k9 := below_on hwc b9
          have z0 := r9.at_ (i := 0) (u := .int .i64 0) rfl
          have z1 := r9.at_ (i := 1) (u := .int .i64 0) rfl
          have z2 := r9.at_ (i := 2) (u := .slice none 0 0) rfl
          have y0 := r9.free 0
          have y1 := r9.free 1
          have y2 := r9.free 2
          have x0 := g9.at_ (i := 0) (u := .int .i64 (k : Int)) rfl
          have x1 := g9.at_ (i := 1) (u := .int .i64 (L)) rfl
          have x2 := g9.at_ (i := 2) (u := .slice Ac no cc) rfl
          clear q0 q1 q2 hblk rb CK
          go_wp2_with fail
          have bf : Blk (((w9.setCell ⟨w.heap.size, 0, none⟩ (.int .i64 (k : Int))).setCell ⟨w.heap.size, 1, none⟩ (.int .i64 (L))).setCell ⟨w.heap.size, 2, none⟩ (.slice Ac no cc)) (w.heap.size) 24 #[.int .i64 (k : Int), .int .i64 (L), .slice Ac no cc] := by
            simpa [noFew] using ((r9.set 0 (.int .i64 (k : Int))).set 1 (.int .i64 (L))).set 2 (.slice Ac no cc)
          have hbf : Below w.heap.size w (((w9.setCell ⟨w.heap.size, 0, none⟩ (.int .i64 (k : Int))).setCell ⟨w.heap.size, 1, none⟩ (.int .i64 (L))).setCell ⟨w.heap.size, 2, none⟩ (.slice Ac no cc)) :=
            below_set (below_set (below_set k9 (by dsimp only; omega) _) (by dsimp only; omega) _) (by dsimp only; omega) _
          have sf : Own (((w9.setCell ⟨w.heap.size, 0, none⟩ (.int .i64 (k : Int))).setCell ⟨w.heap.size, 1, none⟩ (.int .i64 (L))).setCell ⟨w.heap.size, 2, none⟩ (.slice Ac no cc)) w.heap.size 40 2 Ac no cc (prs o') := by
            have o9 := hown.below b9 (Nat.le_refl _)
            have hne : ∀ g', Ac = some ⟨g', 0, none⟩ → g' ≠ w.heap.size := fun g' e1 => by have := (o9.blk (g := g') (by first | (rw [e1]; rfl) | (injection e1 with e1; injection e1 with e1; subst e1; rfl))).1; omega
            exact (((o9.far (p := ⟨w.heap.size, 0, none⟩) hne _).far (p := ⟨w.heap.size, 1, none⟩) hne _).far (p := ⟨w.heap.size, 2, none⟩) hne _).mono (by omega)
          clear z0 z1 z2 y0 y1 y2 x0 x1 x2
          generalize (((w9.setCell ⟨w.heap.size, 0, none⟩ (.int .i64 (k : Int))).setCell ⟨w.heap.size, 1, none⟩ (.int .i64 (L))).setCell ⟨w.heap.size, 2, none⟩ (.slice Ac no cc)) = wf at bf hbf sf ⊢
          have z0 := bf.at_ (i := 0) (u := .int .i64 (k : Int)) rfl
          have z1 := bf.at_ (i := 1) (u := .int .i64 (L)) rfl
          have z2 := bf.at_ (i := 2) (u := .slice Ac no cc) rfl
          exact bodyPost_ret (v := .tuple #[.agg #[.int .i64 (k : Int), .int .i64 (L), .slice Ac no cc], .int .i64 0]) (by simp [results, Tryz.results9, go_sem, z0, z1, z2]) rfl ⟨0, k, L, Ac, no, cc, o', rfl, sf, by unfold Fewed; rw [if_pos HG.out]; exact finC_yes HLO.out HE.out, hbf⟩
        · obtain ⟨E, hEE⟩ : ∃ E, fwErr (k : Int) (L) no o' = E := ⟨_, rfl⟩
          rw [hEE] at CK hE
          have t9 : (E != 0) = true := by simpa using hE
          have HE := hide (show fwErr (k : Int) (L) no o' ≠ 0 by rw [hEE]; exact hE)
          clear hE hEE
          go_wp2_with fail
          refine CK.out.mono ?_
          rintro e w9 ⟨rfl, b9⟩
          have r9 := rb.below b9 rb.lt
          have k9 := below_on hwc b9
          have z0 := r9.at_ (i := 0) (u := .int .i64 0) rfl
          have z1 := r9.at_ (i := 1) (u := .int .i64 0) rfl
          have z2 := r9.at_ (i := 2) (u := .slice none 0 0) rfl
          have y0 := r9.free 0
          have y1 := r9.free 1
          have y2 := r9.free 2
          clear q0 q1 q2 hblk rb b9 CK
          go_wp2_with fail
          have bf : Blk (((w9.setCell ⟨w.heap.size, 0, none⟩ (.int .i64 0)).setCell ⟨w.heap.size, 1, none⟩ (.int .i64 0)).setCell ⟨w.heap.size, 2, none⟩ (.slice none 0 0)) (w.heap.size) 24 noFew := by
            simpa [noFew] using ((r9.set 0 (.int .i64 0)).set 1 (.int .i64 0)).set 2 (.slice none 0 0)
          have hbf : Below w.heap.size w (((w9.setCell ⟨w.heap.size, 0, none⟩ (.int .i64 0)).setCell ⟨w.heap.size, 1, none⟩ (.int .i64 0)).setCell ⟨w.heap.size, 2, none⟩ (.slice none 0 0)) :=
            below_set (below_set (below_set k9 (by dsimp only; omega) _) (by dsimp only; omega) _) (by dsimp only; omega) _
          clear z0 z1 z2 y0 y1 y2
          generalize (((w9.setCell ⟨w.heap.size, 0, none⟩ (.int .i64 0)).setCell ⟨w.heap.size, 1, none⟩ (.int .i64 0)).setCell ⟨w.heap.size, 2, none⟩ (.slice none 0 0)) = wf at bf hbf ⊢
          have z0 := bf.at_ (i := 0) (u := .int .i64 0) rfl
          have z1 := bf.at_ (i := 1) (u := .int .i64 0) rfl
          have z2 := bf.at_ (i := 2) (u := .slice none 0 0) rfl
          exact bodyPost_ret (v := .tuple #[.agg noFew, .int .i64 2]) (by simp [results, Tryz.results9, go_sem, z0, z1, z2]) rfl ⟨2, 0, 0, none, 0, 0, [], rfl, Own.nil _ _ _ _, by unfold Fewed; rw [if_pos HG.out]; exact finC_no HLO.out HE.out, hbf⟩
      · have HG := hide (show ¬ o'.length ≤ k by omega)
        have t1 : (k : Int) < (no : Int) := by omega
        have hno : 0 < no := by omega
        obtain ⟨gc, rfl, hgc, hgcl⟩ := oC7.addr hno
        obtain ⟨gs, rfl, hgs, _⟩ := oI6.addr hno
        obtain ⟨ad, d, hAi, _, hdk, hcz⟩ := slz.icell (j := k) (by omega)
        injection hAi with hAi
        subst hAi
        rw [add_lit0] at hcz
        have hcs : gc ≠ gs := fun e => hap gc rfl (by rw [e]; rfl)
        have HDK := hide hdk
        have hdm : d ∈ o'.map (·.2) := HPZ.out.mem_iff.1 (List.mem_of_getElem? hdk)
        obtain ⟨pd, hpd, hpe⟩ := List.mem_map.1 hdm
        obtain ⟨d1, d2⟩ := HB.out pd hpd
        rw [hpe] at d1 d2
        have ez : IntKind.i64.wrap (L + d) = L + d := IntWalk.i64_in _ (by omega)
        have q1 := bO7.at_ (i := 1) (u := .int .i64 L) rfl
        have y1 := bO7.free 1
        have q4 := bT7.at_ (i := 0) (u := .slice (some ⟨gc, 0, none⟩) no cc) rfl
        clear hdm hpd hpe hdk slz hlo oI6
        go_wp2_with fail
        refine anyTill.begin (S := Till (fun w' => w'.cell? ⟨gs, k, none⟩ = some (.int .i64 d)) (fun w' => w'.cell? ⟨w.heap.size + 1, 1, none⟩ = some (.int .i64 L)) [8]) (by kernel_rfl) ?_
        refine anyTill.last (i := 0) (oi := { dst := some 46, op := Op.fieldAddr 24 (Operand.tmp 8) 1, type := 0, pos := "high.go:261", after := #[], guard := none }) (v := ?_) rfl (by kernel_rfl) (by kernel_rfl) (by kernel_rfl) (fun _ _ _ h => h) (by rfl) (Or.inl ⟨by rfl, ?_⟩) ⟨by (first | exact hcz | exact (World.cell?_setCell_far _ ⟨w.heap.size + 1, 1, none⟩ ⟨gs, k, none⟩ _ (by dsimp only; omega)).trans hcz), fun _ => by (exact q1)⟩ (fun hS => ?_)
        rotate_left
        · (intro w hSw; (try dsimp only at hSw); go_split_ands; go_simp; try with_reducible rfl)
        try simp only [Act.put, List.setIfInBounds_toArray, List.set_cons_zero, List.set_cons_succ]
        refine anyTill.soon 8 (i := 1) (oi := { dst := some 47, op := Op.load 3 (Operand.tmp 46), type := 3, pos := "high.go:261", after := #[{ on := 0, ground := Ground.data }], guard := none }) (v := ?_) rfl (by kernel_rfl) (by kernel_rfl) (by kernel_rfl) (by kernel_rfl) (by rfl) (by rfl) (fun _ _ _ h => h) (by rfl) (Or.inl ⟨by rfl, ?_⟩) hS (fun hS => ?_)
        rotate_left
        · (intro w hSw; (try dsimp only at hSw); go_split_ands; go_simp; try with_reducible rfl)
        try simp only [Act.put, List.setIfInBounds_toArray, List.set_cons_zero, List.set_cons_succ]
        refine anyTill.last (i := 2) (oi := { dst := some 48, op := Op.move (Operand.tmp 10), type := 25, pos := "high.go:261", after := #[], guard := none }) (v := ?_) rfl (by kernel_rfl) (by kernel_rfl) (by kernel_rfl) (fun _ _ _ h => h) (by rfl) (Or.inl ⟨by rfl, ?_⟩) hS (fun hS => ?_)
        rotate_left
        · (intro w hSw; (try dsimp only at hSw); go_split_ands; go_simp; try with_reducible rfl)
        try simp only [Act.put, List.setIfInBounds_toArray, List.set_cons_zero, List.set_cons_succ]
        refine anyTill.last (i := 3) (oi := { dst := some 49, op := Op.move (Operand.tmp 0), type := 3, pos := "high.go:261", after := #[], guard := none }) (v := ?_) rfl (by kernel_rfl) (by kernel_rfl) (by kernel_rfl) (fun _ _ _ h => h) (by rfl) (Or.inl ⟨by rfl, ?_⟩) hS (fun hS => ?_)
        rotate_left
        · (intro w hSw; (try dsimp only at hSw); go_split_ands; go_simp; try with_reducible rfl)
        try simp only [Act.put, List.setIfInBounds_toArray, List.set_cons_zero, List.set_cons_succ]
        refine anyTill.last (i := 4) (oi := { dst := some 50, op := Op.indexAddr 25 (Operand.tmp 48) (Operand.tmp 49), type := 0, pos := "high.go:261", after := #[{ on := 2, ground := Ground.data }, { on := 3, ground := Ground.data }], guard := none }) (v := ?_) rfl (by kernel_rfl) (by kernel_rfl) (by kernel_rfl) (fun _ _ _ h => h) (by rfl) (Or.inl ⟨by rfl, ?_⟩) hS (fun hS => ?_)
        rotate_left
        · (intro w hSw; (try dsimp only at hSw); go_split_ands; go_simp; try with_reducible rfl)
        try simp only [Act.put, List.setIfInBounds_toArray, List.set_cons_zero, List.set_cons_succ]
        refine anyTill.last (i := 5) (oi := { dst := some 51, op := Op.load 3 (Operand.tmp 50), type := 3, pos := "high.go:261", after := #[{ on := 4, ground := Ground.data }], guard := none }) (v := ?_) rfl (by kernel_rfl) (by kernel_rfl) (by kernel_rfl) (fun _ _ _ h => h) (by rfl) (Or.inl ⟨by rfl, ?_⟩) hS (fun hS => ?_)
        rotate_left
        · (intro w hSw; (try dsimp only at hSw); go_split_ands; go_simp; try with_reducible rfl)
        try simp only [Act.put, List.setIfInBounds_toArray, List.set_cons_zero, List.set_cons_succ]
        refine anyTill.last (i := 6) (oi := { dst := some 52, op := Op.binOp BinOp.add 3 (Operand.tmp 47) (Operand.tmp 51) 3, type := 3, pos := "high.go:261", after := #[{ on := 1, ground := Ground.data }, { on := 5, ground := Ground.data }], guard := none }) (v := ?_) rfl (by kernel_rfl) (by kernel_rfl) (by kernel_rfl) (fun _ _ _ h => h) (by rfl) (Or.inl ⟨by rfl, ?_⟩) hS (fun hS => ?_)
        rotate_left
        · (intro w hSw; (try dsimp only at hSw); go_split_ands; go_simp; try with_reducible rfl)
        try simp only [Act.put, List.setIfInBounds_toArray, List.set_cons_zero, List.set_cons_succ]
        refine anyTill.last (i := 7) (oi := { dst := some 53, op := Op.fieldAddr 24 (Operand.tmp 8) 1, type := 0, pos := "high.go:261", after := #[{ on := 0, ground := Ground.phase }, { on := 1, ground := Ground.phase }, { on := 2, ground := Ground.phase }, { on := 3, ground := Ground.phase }, { on := 4, ground := Ground.phase }, { on := 5, ground := Ground.phase }, { on := 6, ground := Ground.phase }], guard := none }) (v := ?_) rfl (by kernel_rfl) (by kernel_rfl) (by kernel_rfl) (fun _ _ _ h => h) (by rfl) (Or.inl ⟨by rfl, ?_⟩) hS (fun hS => ?_)
        rotate_left
        · (intro w hSw; (try dsimp only at hSw); go_split_ands; go_simp; try with_reducible rfl)
        try simp only [Act.put, List.setIfInBounds_toArray, List.set_cons_zero, List.set_cons_succ]
        refine anyTill.ready (rs := [8]) (by kernel_rfl) (by simp) ?_
        refine AllTill.cons (o := { dst := none, op := Op.store 3 (Operand.tmp 53) (Operand.tmp 52), type := 0, pos := "high.go:261", after := #[{ on := 7, ground := Ground.data }, { on := 6, ground := Ground.data }, { on := 0, ground := Ground.phase }, { on := 1, ground := Ground.phase }, { on := 2, ground := Ground.phase }, { on := 3, ground := Ground.phase }, { on := 4, ground := Ground.phase }, { on := 5, ground := Ground.phase }, { on := 6, ground := Ground.phase }], guard := none }) rfl (fun K hK => ?_) AllTill.nil
        · clear hS
          go_simp
          refine hK.out _ _ (Till.over (by rfl) (by (first | exact hcz | exact (World.cell?_setCell_far _ ⟨w.heap.size + 1, 1, none⟩ ⟨gs, k, none⟩ _ (by dsimp only; omega)).trans hcz))) (fun hS => ?_)
          clear hK K
          try simp only [Act.put, List.setIfInBounds_toArray, List.set_cons_zero, List.set_cons_succ]
          refine anyTill.fin (by kernel_rfl) ?_ _
          have bO8 := bO7.set 1 (.int .i64 (L + d))
          have bT8 := bT7.far (p := ⟨w.heap.size + 1, 1, none⟩) (by dsimp only; omega) (.int .i64 (L + d))
          have bR8 := bR7.far (p := ⟨w.heap.size + 1, 1, none⟩) (by dsimp only; omega) (.int .i64 (L + d))
          have oC8 := oC7.low (p := ⟨w.heap.size + 1, 1, none⟩) (by dsimp only; omega) (.int .i64 (L + d))
          have hb8 : Below w.heap.size w (w7.setCell ⟨w.heap.size + 1, 1, none⟩ (.int .i64 (L + d))) := below_set hb7 (by dsimp only; omega) _
          have hcz8 := (World.cell?_setCell_far w7 ⟨w.heap.size + 1, 1, none⟩ ⟨gs, k, none⟩ (.int .i64 (L + d)) (by dsimp only; omega)).trans hcz
          have hbO8 : Blk (w7.setCell ⟨w.heap.size + 1, 1, none⟩ (.int .i64 (L + d))) (w.heap.size + 1) 24 #[.int .i64 (k : Int), .int .i64 (L + d), .slice none 0 0] := by simpa using bO8
          rw [← subTo_zero d o'] at oC8
          have e8 : w7.heap.size = (w7.setCell ⟨w.heap.size + 1, 1, none⟩ (.int .i64 (L + d))).heap.size := by simp
          rw [e8] at hz7 hgcl
          generalize (w7.setCell ⟨w.heap.size + 1, 1, none⟩ (.int .i64 (L + d))) = w8 at hbO8 bT8 bR8 oC8 hb8 hcz8 hz7 hgcl ⊢
          clear bO8 bT7 bR7 bO7 oC7 hb7 hcz q1 y1 q4 hS e8 ez
          have q4 := bT8.at_ (i := 0) (u := .slice (some ⟨gc, 0, none⟩) no cc) rfl
          go_wp2_with fail
          go_loopw [56] (fun iv wx => ∃ i : Nat, i ≤ no ∧ iv = .int .i64 i ∧ Own wx (w.heap.size + 4) 40 2 (some ⟨gc, 0, none⟩) no cc (prs (subTo d i o')) ∧ Blk wx w.heap.size 24 noFew ∧ Blk wx (w.heap.size + 1) 24 #[.int .i64 (k : Int), .int .i64 (L + d), .slice none 0 0] ∧ Blk wx (w.heap.size + 2) 22 #[.slice (some ⟨gc, 0, none⟩) no cc] ∧ wx.cell? ⟨gs, k, none⟩ = some (.int .i64 d) ∧ Below w.heap.size w wx) (fun iv _ => no - (intOf iv).toNat)
          case atStart => exact ⟨0, Nat.zero_le _, rfl, oC8, bR8, hbO8, bT8, hcz8, by repeat' (first | assumption | with_reducible exact Below.refl _ _ | with_reducible apply Below.drew | with_reducible apply below_drewN | with_reducible apply below_alloc | with_reducible refine below_set ?_ ?_ _ | (simp only [World.size_alloc, World.heap_drewN]; omega) | (simp; omega))⟩
          case round =>
            clear oC8 bR8 hbO8 bT8 hcz8 hb8 q4
            obtain ⟨i, hi, rfl, oC, bR, bO, bT, hcz, hbx⟩ := hrel
            by_cases hlt : i < no
            · obtain ⟨p, hp⟩ : ∃ p, o'[i]? = some p := ⟨_, List.getElem?_eq_getElem (by have := HLO.out; omega)⟩
              have HNX := hide (subTo_next (d := d) hp)
              have hps := subTo_at (d := d) hp
              obtain ⟨p1, p2⟩ := HB.out p (List.mem_of_getElem? hp)
              have HST := hide (fun v => set1C v hps)
              have c0 := oC.cell (prs_at0 hps)
              have c1 := oC.cell (prs_at1 hps)
              have y1 := oC.free (i * 2 + 1)
              have q4 := bT.at_ (i := 0) (u := .slice (some ⟨gc, 0, none⟩) no cc) rfl
              obtain ⟨x1, x2⟩ := p
              dsimp only at c0 c1 p1 p2
              have ez : IntKind.i64.wrap (x2 - d) = x2 - d := IntWalk.i64_in _ (by omega)
              clear hp hps c0
              go_wp2_with fail
              refine anyTill.begin (S := Till (fun w' => w'.cell? ⟨w.heap.size + 2, 0, none⟩ = some (.slice (some ⟨gc, 0, none⟩) no cc) ∧ w'.cell? ⟨gs, k, none⟩ = some (.int .i64 d)) (fun w' => w'.cell? ⟨gc, i * 2 + 1, none⟩ = some (.int .i64 x2)) [12]) (by kernel_rfl) ?_
              refine anyTill.last (i := 0) (oi := { dst := some 59, op := Op.load 22 (Operand.tmp 9), type := 22, pos := "high.go:263", after := #[], guard := none }) (v := ?_) rfl (by kernel_rfl) (by kernel_rfl) (by kernel_rfl) (fun _ _ _ h => h) (by rfl) (Or.inl ⟨by rfl, ?_⟩) ⟨by (exact ⟨(by first | exact q4 | exact (World.cell?_setCell_far _ ⟨gc, i * 2 + 1, none⟩ ⟨w.heap.size + 2, 0, none⟩ _ (by dsimp only; omega)).trans q4), (by first | exact hcz | exact (World.cell?_setCell_far _ ⟨gc, i * 2 + 1, none⟩ ⟨gs, k, none⟩ _ hcs).trans hcz)⟩), fun _ => by (exact c1)⟩ (fun hS => ?_)
              rotate_left
              · (intro w hSw; (try dsimp only at hSw); go_split_ands; go_simp; try with_reducible rfl)
              try simp only [Act.put, List.setIfInBounds_toArray, List.set_cons_zero, List.set_cons_succ]
              refine anyTill.last (i := 1) (oi := { dst := some 60, op := Op.move (Operand.tmp 13), type := 3, pos := "high.go:263", after := #[], guard := none }) (v := ?_) rfl (by kernel_rfl) (by kernel_rfl) (by kernel_rfl) (fun _ _ _ h => h) (by rfl) (Or.inl ⟨by rfl, ?_⟩) hS (fun hS => ?_)
              rotate_left
              · (intro w hSw; (try dsimp only at hSw); go_split_ands; go_simp; try with_reducible rfl)
              try simp only [Act.put, List.setIfInBounds_toArray, List.set_cons_zero, List.set_cons_succ]
              refine anyTill.last (i := 2) (oi := { dst := some 61, op := Op.indexAddr 22 (Operand.tmp 59) (Operand.tmp 60), type := 0, pos := "high.go:263", after := #[{ on := 0, ground := Ground.data }, { on := 1, ground := Ground.data }], guard := none }) (v := ?_) rfl (by kernel_rfl) (by kernel_rfl) (by kernel_rfl) (fun _ _ _ h => h) (by rfl) (Or.inl ⟨by rfl, ?_⟩) hS (fun hS => ?_)
              rotate_left
              · (intro w hSw; (try dsimp only at hSw); go_split_ands; go_simp; try with_reducible rfl)
              try simp only [Act.put, List.setIfInBounds_toArray, List.set_cons_zero, List.set_cons_succ]
              refine anyTill.last (i := 3) (oi := { dst := some 62, op := Op.fieldAddr 40 (Operand.tmp 61) 1, type := 0, pos := "high.go:263", after := #[{ on := 2, ground := Ground.data }], guard := none }) (v := ?_) rfl (by kernel_rfl) (by kernel_rfl) (by kernel_rfl) (fun _ _ _ h => h) (by rfl) (Or.inl ⟨by rfl, ?_⟩) hS (fun hS => ?_)
              rotate_left
              · (intro w hSw; (try dsimp only at hSw); go_split_ands; go_simp; try with_reducible rfl)
              try simp only [Act.put, List.setIfInBounds_toArray, List.set_cons_zero, List.set_cons_succ]
              refine anyTill.soon 12 (i := 4) (oi := { dst := some 63, op := Op.load 3 (Operand.tmp 62), type := 3, pos := "high.go:263", after := #[{ on := 3, ground := Ground.data }], guard := none }) (v := ?_) rfl (by kernel_rfl) (by kernel_rfl) (by kernel_rfl) (by kernel_rfl) (by rfl) (by rfl) (fun _ _ _ h => h) (by rfl) (Or.inl ⟨by rfl, ?_⟩) hS (fun hS => ?_)
              rotate_left
              · (intro w hSw; (try dsimp only at hSw); go_split_ands; go_simp; try with_reducible rfl)
              try simp only [Act.put, List.setIfInBounds_toArray, List.set_cons_zero, List.set_cons_succ]
              refine anyTill.last (i := 5) (oi := { dst := some 64, op := Op.move (Operand.tmp 10), type := 25, pos := "high.go:263", after := #[], guard := none }) (v := ?_) rfl (by kernel_rfl) (by kernel_rfl) (by kernel_rfl) (fun _ _ _ h => h) (by rfl) (Or.inl ⟨by rfl, ?_⟩) hS (fun hS => ?_)
              rotate_left
              · (intro w hSw; (try dsimp only at hSw); go_split_ands; go_simp; try with_reducible rfl)
              try simp only [Act.put, List.setIfInBounds_toArray, List.set_cons_zero, List.set_cons_succ]
              refine anyTill.last (i := 6) (oi := { dst := some 65, op := Op.move (Operand.tmp 0), type := 3, pos := "high.go:263", after := #[], guard := none }) (v := ?_) rfl (by kernel_rfl) (by kernel_rfl) (by kernel_rfl) (fun _ _ _ h => h) (by rfl) (Or.inl ⟨by rfl, ?_⟩) hS (fun hS => ?_)
              rotate_left
              · (intro w hSw; (try dsimp only at hSw); go_split_ands; go_simp; try with_reducible rfl)
              try simp only [Act.put, List.setIfInBounds_toArray, List.set_cons_zero, List.set_cons_succ]
              refine anyTill.last (i := 7) (oi := { dst := some 66, op := Op.indexAddr 25 (Operand.tmp 64) (Operand.tmp 65), type := 0, pos := "high.go:263", after := #[{ on := 5, ground := Ground.data }, { on := 6, ground := Ground.data }], guard := none }) (v := ?_) rfl (by kernel_rfl) (by kernel_rfl) (by kernel_rfl) (fun _ _ _ h => h) (by rfl) (Or.inl ⟨by rfl, ?_⟩) hS (fun hS => ?_)
              rotate_left
              · (intro w hSw; (try dsimp only at hSw); go_split_ands; go_simp; try with_reducible rfl)
              try simp only [Act.put, List.setIfInBounds_toArray, List.set_cons_zero, List.set_cons_succ]
              refine anyTill.last (i := 8) (oi := { dst := some 67, op := Op.load 3 (Operand.tmp 66), type := 3, pos := "high.go:263", after := #[{ on := 7, ground := Ground.data }], guard := none }) (v := ?_) rfl (by kernel_rfl) (by kernel_rfl) (by kernel_rfl) (fun _ _ _ h => h) (by rfl) (Or.inl ⟨by rfl, ?_⟩) hS (fun hS => ?_)
              rotate_left
              · (intro w hSw; (try dsimp only at hSw); go_split_ands; go_simp; try with_reducible rfl)
              try simp only [Act.put, List.setIfInBounds_toArray, List.set_cons_zero, List.set_cons_succ]
              refine anyTill.last (i := 9) (oi := { dst := some 68, op := Op.binOp BinOp.sub 3 (Operand.tmp 63) (Operand.tmp 67) 3, type := 3, pos := "high.go:263", after := #[{ on := 4, ground := Ground.data }, { on := 8, ground := Ground.data }], guard := none }) (v := ?_) rfl (by kernel_rfl) (by kernel_rfl) (by kernel_rfl) (fun _ _ _ h => h) (by rfl) (Or.inl ⟨by rfl, ?_⟩) hS (fun hS => ?_)
              rotate_left
              · (intro w hSw; (try dsimp only at hSw); go_split_ands; go_simp; try with_reducible rfl)
              try simp only [Act.put, List.setIfInBounds_toArray, List.set_cons_zero, List.set_cons_succ]
              refine anyTill.last (i := 10) (oi := { dst := some 69, op := Op.indexAddr 22 (Operand.tmp 59) (Operand.tmp 60), type := 0, pos := "high.go:263", after := #[{ on := 0, ground := Ground.data }, { on := 1, ground := Ground.data }, { on := 0, ground := Ground.phase }, { on := 1, ground := Ground.phase }, { on := 2, ground := Ground.phase }, { on := 3, ground := Ground.phase }, { on := 4, ground := Ground.phase }, { on := 5, ground := Ground.phase }, { on := 6, ground := Ground.phase }, { on := 7, ground := Ground.phase }, { on := 8, ground := Ground.phase }, { on := 9, ground := Ground.phase }], guard := none }) (v := ?_) rfl (by kernel_rfl) (by kernel_rfl) (by kernel_rfl) (fun _ _ _ h => h) (by rfl) (Or.inl ⟨by rfl, ?_⟩) hS (fun hS => ?_)
              rotate_left
              · (intro w hSw; (try dsimp only at hSw); go_split_ands; go_simp; try with_reducible rfl)
              try simp only [Act.put, List.setIfInBounds_toArray, List.set_cons_zero, List.set_cons_succ]
              refine anyTill.last (i := 11) (oi := { dst := some 70, op := Op.fieldAddr 40 (Operand.tmp 69) 1, type := 0, pos := "high.go:263", after := #[{ on := 10, ground := Ground.data }, { on := 0, ground := Ground.phase }, { on := 1, ground := Ground.phase }, { on := 2, ground := Ground.phase }, { on := 3, ground := Ground.phase }, { on := 4, ground := Ground.phase }, { on := 5, ground := Ground.phase }, { on := 6, ground := Ground.phase }, { on := 7, ground := Ground.phase }, { on := 8, ground := Ground.phase }, { on := 9, ground := Ground.phase }], guard := none }) (v := ?_) rfl (by kernel_rfl) (by kernel_rfl) (by kernel_rfl) (fun _ _ _ h => h) (by rfl) (Or.inl ⟨by rfl, ?_⟩) hS (fun hS => ?_)
              rotate_left
              · (intro w hSw; (try dsimp only at hSw); go_split_ands; go_simp; try with_reducible rfl)
              try simp only [Act.put, List.setIfInBounds_toArray, List.set_cons_zero, List.set_cons_succ]
              refine anyTill.ready (rs := [12]) (by kernel_rfl) (by simp) ?_
              refine AllTill.cons (o := { dst := none, op := Op.store 3 (Operand.tmp 70) (Operand.tmp 68), type := 0, pos := "high.go:263", after := #[{ on := 11, ground := Ground.data }, { on := 9, ground := Ground.data }, { on := 0, ground := Ground.phase }, { on := 1, ground := Ground.phase }, { on := 2, ground := Ground.phase }, { on := 3, ground := Ground.phase }, { on := 4, ground := Ground.phase }, { on := 5, ground := Ground.phase }, { on := 6, ground := Ground.phase }, { on := 7, ground := Ground.phase }, { on := 8, ground := Ground.phase }, { on := 9, ground := Ground.phase }], guard := none }) rfl (fun K hK => ?_) AllTill.nil
              · clear hS
                go_simp
                refine hK.out _ _ (Till.over (by rfl) (by (exact ⟨(by first | exact q4 | exact (World.cell?_setCell_far _ ⟨gc, i * 2 + 1, none⟩ ⟨w.heap.size + 2, 0, none⟩ _ (by dsimp only; omega)).trans q4), (by first | exact hcz | exact (World.cell?_setCell_far _ ⟨gc, i * 2 + 1, none⟩ ⟨gs, k, none⟩ _ hcs).trans hcz)⟩))) (fun hS => ?_)
                clear hK K
                try simp only [Act.put, List.setIfInBounds_toArray, List.set_cons_zero, List.set_cons_succ]
                refine anyTill.fin (by kernel_rfl) ?_ _
                go_wp2_with fail
                have oC5 := oC.set (i * 2 + 1) (.int .i64 (x2 - d))
                rw [HST.out] at oC5
                rw [HNX.out] at oC5
                go_roundw
                case rel => exact ⟨i + 1, by omega, by go_num, oC5, bR.far (p := ⟨gc, i * 2 + 1, none⟩) (by dsimp only; omega) _, bO.far (p := ⟨gc, i * 2 + 1, none⟩) (by dsimp only; omega) _, bT.far (p := ⟨gc, i * 2 + 1, none⟩) (by dsimp only; omega) _, (World.cell?_setCell_far _ ⟨gc, i * 2 + 1, none⟩ ⟨gs, k, none⟩ _ hcs).trans hcz, by repeat' (first | assumption | with_reducible exact Below.refl _ _ | with_reducible apply Below.drew | with_reducible apply below_drewN | with_reducible apply below_alloc | with_reducible refine below_set ?_ ?_ _ | (simp only [World.size_alloc, World.heap_drewN]; omega) | (simp; omega))⟩
                case measure => simp [intOf]; omega
            · obtain rfl : i = no := by omega
              have CDF := hide (deleteFuncC few2_any oC)
              rw [subTo_all HLO.out] at CDF
              have q4 := bT.at_ (i := 0) (u := .slice (some ⟨gc, 0, none⟩) i cc) rfl
              go_wp2_with fail
              refine CDF.out.mono ?_
              rintro e w9 ⟨mm, hmm, rfl, oC9, hg9⟩
              have hnb : ∀ g, g < w.heap.size + 4 → blockOf (some ⟨gc, 0, none⟩) ≠ some g := fun g hg e => by injection e with e; dsimp only at e; omega
              have bT9 := bT.grown hg9 (hnb _ (by omega))
              have bR9 := bR.grown hg9 (hnb _ (by omega))
              have bO9 := bO.grown hg9 (hnb _ (by omega))
              have hb9 := hbx.grown hg9 hbx.size (fun x hx => by injection hx with hx; dsimp only at hx; omega)
              have hz9 := bT9.lt
              have q5 := bT9.at_ (i := 0) (u := .slice (some ⟨gc, 0, none⟩) i cc) rfl
              have q6 := bT9.free 0
              have q7 := bO9.at_ (i := 2) (u := .slice none 0 0) rfl
              have q8 := bO9.free 2
              obtain ⟨M5, hM5⟩ : ∃ M5, lessC d o' = M5 := ⟨_, rfl⟩
              have HM5 := hide hM5
              rw [hM5] at oC9 hmm
              have HN5 := hide hmm
              clear CDF q4 oC bT bR bO hcz hbx hg9 hmm hM5 hnb
              go_upto_region 19 with fail
              have hblk : Blk ((w9.setCell ⟨w.heap.size + 2, 0, none⟩ (.slice (some ⟨gc, 0, none⟩) mm cc)).setCell ⟨w.heap.size + 1, 2, none⟩ (.slice (some ⟨gc, 0, none⟩) mm cc)) (w.heap.size + 1) 24 #[.int .i64 (k : Int), .int .i64 (L + d), .slice (some ⟨gc, 0, none⟩) mm cc] := by simpa using (bO9.far (p := ⟨w.heap.size + 2, 0, none⟩) (by dsimp only; omega) (.slice (some ⟨gc, 0, none⟩) mm cc)).set 2 (.slice (some ⟨gc, 0, none⟩) mm cc)
              have hown := (oC9.low (p := ⟨w.heap.size + 2, 0, none⟩) (by dsimp only; omega) (.slice (some ⟨gc, 0, none⟩) mm cc)).low (p := ⟨w.heap.size + 1, 2, none⟩) (by dsimp only; omega) (.slice (some ⟨gc, 0, none⟩) mm cc)
              have rb := (bR9.far (p := ⟨w.heap.size + 2, 0, none⟩) (by dsimp only; omega) (.slice (some ⟨gc, 0, none⟩) mm cc)).far (p := ⟨w.heap.size + 1, 2, none⟩) (by dsimp only; omega) (.slice (some ⟨gc, 0, none⟩) mm cc)
              have hwc : Below w.heap.size w ((w9.setCell ⟨w.heap.size + 2, 0, none⟩ (.slice (some ⟨gc, 0, none⟩) mm cc)).setCell ⟨w.heap.size + 1, 2, none⟩ (.slice (some ⟨gc, 0, none⟩) mm cc)) := below_set (below_set hb9 (by dsimp only; omega) _) (by dsimp only; omega) _
              clear q5 q6 q7 q8 oC9 bT9 bR9 bO9 hb9
              generalize ((w9.setCell ⟨w.heap.size + 2, 0, none⟩ (.slice (some ⟨gc, 0, none⟩) mm cc)).setCell ⟨w.heap.size + 1, 2, none⟩ (.slice (some ⟨gc, 0, none⟩) mm cc)) = w8 at hblk hown rb hwc ⊢
              have q0 := hblk.at_ (i := 0) (u := .int .i64 (k : Int)) rfl
              have q1 := hblk.at_ (i := 1) (u := .int .i64 (L + d)) rfl
              have q2 := hblk.at_ (i := 2) (u := .slice (some ⟨gc, 0, none⟩) mm cc) rfl
              have CK := hide (rfew_any (k : Int) (L + d) hown.sl)
              by_cases hE : fwErr (k : Int) (L + d) mm M5 = 0
              · rw [hE] at CK
                have HE := hide hE
                clear hE
                go_wp2_with fail
                refine CK.out.mono ?_
                rintro e w9 ⟨rfl, b9⟩
                have r9 := rb.below b9 rb.lt
                have g9 := hblk.below b9 hblk.lt
                have k9 := below_on hwc b9
                have z0 := r9.at_ (i := 0) (u := .int .i64 0) rfl
                have z1 := r9.at_ (i := 1) (u := .int .i64 0) rfl
                have z2 := r9.at_ (i := 2) (u := .slice none 0 0) rfl
                have y0 := r9.free 0
                have y1 := r9.free 1
                have y2 := r9.free 2
                have x0 := g9.at_ (i := 0) (u := .int .i64 (k : Int)) rfl
                have x1 := g9.at_ (i := 1) (u := .int .i64 (L + d)) rfl
                have x2 := g9.at_ (i := 2) (u := .slice (some (⟨gc, 0, none⟩ : Addr)) mm cc) rfl
                clear q0 q1 q2 hblk rb CK
                go_wp2_with fail
                have bf : Blk (((w9.setCell ⟨w.heap.size, 0, none⟩ (.int .i64 (k : Int))).setCell ⟨w.heap.size, 1, none⟩ (.int .i64 (L + d))).setCell ⟨w.heap.size, 2, none⟩ (.slice (some (⟨gc, 0, none⟩ : Addr)) mm cc)) (w.heap.size) 24 #[.int .i64 (k : Int), .int .i64 (L + d), .slice (some (⟨gc, 0, none⟩ : Addr)) mm cc] := by
                  simpa [noFew] using ((r9.set 0 (.int .i64 (k : Int))).set 1 (.int .i64 (L + d))).set 2 (.slice (some (⟨gc, 0, none⟩ : Addr)) mm cc)
                have hbf : Below w.heap.size w (((w9.setCell ⟨w.heap.size, 0, none⟩ (.int .i64 (k : Int))).setCell ⟨w.heap.size, 1, none⟩ (.int .i64 (L + d))).setCell ⟨w.heap.size, 2, none⟩ (.slice (some (⟨gc, 0, none⟩ : Addr)) mm cc)) :=
                  below_set (below_set (below_set k9 (by dsimp only; omega) _) (by dsimp only; omega) _) (by dsimp only; omega) _
                have sf : Own (((w9.setCell ⟨w.heap.size, 0, none⟩ (.int .i64 (k : Int))).setCell ⟨w.heap.size, 1, none⟩ (.int .i64 (L + d))).setCell ⟨w.heap.size, 2, none⟩ (.slice (some (⟨gc, 0, none⟩ : Addr)) mm cc)) w.heap.size 40 2 (some (⟨gc, 0, none⟩ : Addr)) mm cc (prs M5) := by
                  have o9 := hown.below b9 (Nat.le_refl _)
                  have hne : ∀ g', (some (⟨gc, 0, none⟩ : Addr)) = some ⟨g', 0, none⟩ → g' ≠ w.heap.size := fun g' e1 => by have := (o9.blk (g := g') (by first | (rw [e1]; rfl) | (injection e1 with e1; injection e1 with e1; subst e1; rfl))).1; omega
                  exact (((o9.far (p := ⟨w.heap.size, 0, none⟩) hne _).far (p := ⟨w.heap.size, 1, none⟩) hne _).far (p := ⟨w.heap.size, 2, none⟩) hne _).mono (by omega)
                clear z0 z1 z2 y0 y1 y2 x0 x1 x2
                generalize (((w9.setCell ⟨w.heap.size, 0, none⟩ (.int .i64 (k : Int))).setCell ⟨w.heap.size, 1, none⟩ (.int .i64 (L + d))).setCell ⟨w.heap.size, 2, none⟩ (.slice (some (⟨gc, 0, none⟩ : Addr)) mm cc)) = wf at bf hbf sf ⊢
                have z0 := bf.at_ (i := 0) (u := .int .i64 (k : Int)) rfl
                have z1 := bf.at_ (i := 1) (u := .int .i64 (L + d)) rfl
                have z2 := bf.at_ (i := 2) (u := .slice (some (⟨gc, 0, none⟩ : Addr)) mm cc) rfl
                exact bodyPost_ret (v := .tuple #[.agg #[.int .i64 (k : Int), .int .i64 (L + d), .slice (some (⟨gc, 0, none⟩ : Addr)) mm cc], .int .i64 0]) (by simp [results, Tryz.results9, go_sem, z0, z1, z2]) rfl ⟨0, k, L + d, some ⟨gc, 0, none⟩, mm, cc, M5, rfl, sf, by unfold Fewed; rw [if_neg HG.out]; exact ⟨zs, d, HPZ.out, HDZ.out, HDK.out, by rw [HM5.out]; exact finC_yes HN5.out.symm HE.out⟩, hbf⟩
              · obtain ⟨E, hEE⟩ : ∃ E, fwErr (k : Int) (L + d) mm M5 = E := ⟨_, rfl⟩
                rw [hEE] at CK hE
                have t9 : (E != 0) = true := by simpa using hE
                have HE := hide (show fwErr (k : Int) (L + d) mm M5 ≠ 0 by rw [hEE]; exact hE)
                clear hE hEE
                go_wp2_with fail
                refine CK.out.mono ?_
                rintro e w9 ⟨rfl, b9⟩
                have r9 := rb.below b9 rb.lt
                have k9 := below_on hwc b9
                have z0 := r9.at_ (i := 0) (u := .int .i64 0) rfl
                have z1 := r9.at_ (i := 1) (u := .int .i64 0) rfl
                have z2 := r9.at_ (i := 2) (u := .slice none 0 0) rfl
                have y0 := r9.free 0
                have y1 := r9.free 1
                have y2 := r9.free 2
                clear q0 q1 q2 hblk rb b9 CK
                go_wp2_with fail
                have bf : Blk (((w9.setCell ⟨w.heap.size, 0, none⟩ (.int .i64 0)).setCell ⟨w.heap.size, 1, none⟩ (.int .i64 0)).setCell ⟨w.heap.size, 2, none⟩ (.slice none 0 0)) (w.heap.size) 24 noFew := by
                  simpa [noFew] using ((r9.set 0 (.int .i64 0)).set 1 (.int .i64 0)).set 2 (.slice none 0 0)
                have hbf : Below w.heap.size w (((w9.setCell ⟨w.heap.size, 0, none⟩ (.int .i64 0)).setCell ⟨w.heap.size, 1, none⟩ (.int .i64 0)).setCell ⟨w.heap.size, 2, none⟩ (.slice none 0 0)) :=
                  below_set (below_set (below_set k9 (by dsimp only; omega) _) (by dsimp only; omega) _) (by dsimp only; omega) _
                clear z0 z1 z2 y0 y1 y2
                generalize (((w9.setCell ⟨w.heap.size, 0, none⟩ (.int .i64 0)).setCell ⟨w.heap.size, 1, none⟩ (.int .i64 0)).setCell ⟨w.heap.size, 2, none⟩ (.slice none 0 0)) = wf at bf hbf ⊢
                have z0 := bf.at_ (i := 0) (u := .int .i64 0) rfl
                have z1 := bf.at_ (i := 1) (u := .int .i64 0) rfl
                have z2 := bf.at_ (i := 2) (u := .slice none 0 0) rfl
                exact bodyPost_ret (v := .tuple #[.agg noFew, .int .i64 2]) (by simp [results, Tryz.results9, go_sem, z0, z1, z2]) rfl ⟨2, 0, 0, none, 0, 0, [], rfl, Own.nil _ _ _ _, by unfold Fewed; rw [if_neg HG.out]; exact ⟨zs, d, HPZ.out, HDZ.out, HDK.out, by rw [HM5.out]; exact finC_no HN5.out.symm HE.out⟩, hbf⟩
          
    · intro x y w1 cnt1 hcm hrg1 hlt1 hg1 hs1 hen
      have oC1 := oC.grown hg1 (fun g hg e => by have := hboC g (by rw [hg]; rfl); injection e with e; omega)
      have oI1 := oI.grown hg1 (fun g hg e => by have := hboI g (by rw [hg]; rfl); injection e with e; omega)
      have bR1 := bR.grown hg1 (by intro e; injection e with e; omega)
      have bO1 := bO.grown hg1 (by intro e; injection e with e; omega)
      have bT1 := bT.grown hg1 (by intro e; injection e with e; omega)
      have hb1 := hbx.grown hg1 hbx.size (fun j hj => by injection hj with hj; omega)
      have f1 := bT1.at_ (i := 0) (u := .slice Ac no cc) rfl
      have oCA := oC1.alloc (.cells #[.int .i64 x, .int .i64 y] 40)
      have oIA := oI1.alloc (.cells #[.int .i64 x, .int .i64 y] 40)
      have bRA := bR1.alloc (.cells #[.int .i64 x, .int .i64 y] 40)
      have bOA := bO1.alloc (.cells #[.int .i64 x, .int .i64 y] 40)
      have bTA := bT1.alloc (.cells #[.int .i64 x, .int .i64 y] 40)
      have hrgA := hrg1.alloc (.cells #[.int .i64 x, .int .i64 y] 40)
      have hbA := below_alloc hb1 (.cells #[.int .i64 x, .int .i64 y] 40)
      have hslA := Sl.new w1 40 2 1 (prs [(x, y)]) (by simp [maxLen]) rfl
      have hz1 : w.heap.size + 4 ≤ w1.heap.size := by omega
      clear hrg oC oI bR bO bT hbx hs1 oC1 oI1 bR1 bO1 bT1 hb1 hrg1
      go_wp2_with (first
        | (at_builtin; refine wpList_append_sl T_ctr rfl _ _ rfl (by rfl) (by rfl) oCA hslA (prs_one _) (by simp only [maxLen]; omega) (by omega) (by simp only [World.size_alloc]; omega) ?_; intro A3 c3 w3 ap
           have oI3 := (oIA.grown_apart ap hap).alloc (.cells #[.int .i64 y] 3)
           have hsl3 := Sl.new w3 3 1 1 (ints [y]) (by simp [maxLen]) rfl
           have hz3 : w.heap.size + 4 ≤ w3.heap.size := by have := ap.below.size; have h2 := hbA.size; have h3 := ap.grow.size; rw [World.size_alloc] at h3; omega)
        | (at_builtin; refine wpList_append_sl T_num rfl _ _ rfl (by rfl) (by rfl) oI3 hsl3 (ints_one _) (by simp only [maxLen]; omega) (by omega) (by simp only [World.size_alloc]; omega) ?_; intro A4 c4 w4 ap4
           have oC3 := ap.own.alloc (.cells #[.int .i64 y] 3)
           have hap3 : Apart Ai A3 := Own.apart_type oI3 oC3 (by decide)
           have hq : ∀ g, blockOf Ac ≠ some g ∧ blockOf Ai ≠ some g ∨ w.heap.size + 4 ≤ g := fun g => by
             rcases Nat.lt_or_ge g (w.heap.size + 4) with h | h
             · exact .inl ⟨fun e => by have := hboC g e; omega, fun e => by have := hboI g e; omega⟩
             · exact .inr h
           have bT4 := ((bTA.grown ap.grow ((hq _).elim And.left (fun h => by omega))).alloc (.cells #[.int .i64 y] 3)).grown ap4.grow ((hq _).elim And.right (fun h => by omega))
           have e4 := bT4.at_ (i := 0) (u := .slice Ac no cc) rfl
           have ef4 := bT4.free 0))
      have bR4 := ((bRA.grown ap.grow ((hq _).elim And.left (fun h => by omega))).alloc (.cells #[.int .i64 y] 3)).grown ap4.grow ((hq _).elim And.right (fun h => by omega))
      have bO4 := ((bOA.grown ap.grow ((hq _).elim And.left (fun h => by omega))).alloc (.cells #[.int .i64 y] 3)).grown ap4.grow ((hq _).elim And.right (fun h => by omega))
      have hrg4 := (((hrgA.kept ap.grow (Ne.symm ((hq _).elim And.left (fun h => by omega))) (Ne.symm ((hq _).elim And.left (fun h => by omega)))).alloc (.cells #[.int .i64 y] 3)).kept ap4.grow (Ne.symm ((hq _).elim And.right (fun h => by omega))) (Ne.symm ((hq _).elim And.right (fun h => by omega)))).set (p := ⟨w.heap.size + 2, 0, none⟩) (by dsimp only; omega) (by dsimp only; omega) (.slice A3 (no + 1) c3)
      have oC4 := (oC3.grown_apart ap4 hap3).low (p := ⟨w.heap.size + 2, 0, none⟩) (by dsimp only; omega) (.slice A3 (no + 1) c3)
      have oI4 := ap4.own.low (p := ⟨w.heap.size + 2, 0, none⟩) (by dsimp only; omega) (.slice A3 (no + 1) c3)
      rw [← prs_append] at oC4
      rw [← ints_append] at oI4
      have bT5 := bT4.set 0 (.slice A3 (no + 1) c3)
      have bR5 := bR4.far (p := ⟨w.heap.size + 2, 0, none⟩) (by dsimp only; omega) (.slice A3 (no + 1) c3)
      have bO5 := bO4.far (p := ⟨w.heap.size + 2, 0, none⟩) (by dsimp only; omega) (.slice A3 (no + 1) c3)
      have hb4 : Below w.heap.size w (w4.setCell ⟨w.heap.size + 2, 0, none⟩ (.slice A3 (no + 1) c3)) := below_set ((below_alloc (hbA.trans (ap.below.mono (by omega))) _).trans (ap4.below.mono (by omega))) (by dsimp only; omega) _
      go_roundw
      case rel => exact ⟨o ++ [(x, y)], cnt1, no + 1, A3, A4, c3, c4, rfl, hrg4, oC4, by rw [List.map_append]; exact oI4, bR5, bO5, bT5, hb4⟩
      case measure => rw [hrg4.left_eq, hml]; exact hlt1
end
end Go.Proofs.YtfopihlbdceepaaGreat
