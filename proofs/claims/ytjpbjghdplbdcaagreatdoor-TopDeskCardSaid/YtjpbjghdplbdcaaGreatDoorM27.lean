/- Proves the parts of the claim that its last text joins: Keep3, Rev2, Break, Few4, MinF, Few5. Conditions: those that each theorem names. -/
import Derived.Test.YtjpbjghdplbdcaaGreatDoorM13
import Derived.Test.YtjpbjghdplbdcaaGreatDoorM22
import Derived.Test.YtjpbjghdplbdcaaGreatDoorM09
import Derived.Test.YtjpbjghdplbdcaaGreatDoorM10
import Derived.Sort.LotD3
import Derived.Shelf.RegionOpenPlain
import Derived.Sort.LotC
import Derived.Sort.LotA
import Derived.Deep.DeepCutAuto
import Derived.Deep.CutBlock
import Derived.BigRegion
import Derived.Outline
import Derived.Deep.Cut
import Derived.Shelf.SlSortFunc.Xorshift
import Derived.Laws.Bits64b
import Derived.Deep.LoopGhost
import Derived.Deep.RegionHeld3
section
namespace Go.Proofs.YtjpbjghdplbdcaaGreatDoor
open Go.RowKit Go.Shelf
set_option linter.unusedVariables false
theorem gu_fit {n : Nat} {xs : List Int} {V E : Int} (h : guV 3 n xs = V) (hn : (n : Int) ≤ 3) (hd : ∀ x ∈ xs, 0 ≤ x ∧ x ≤ 72057594037927935) : I64 V := by
  subst h
  unfold guV I64
  split
  · omega
  · split
    · omega
    · have h3 : n = 3 := by omega
      subst h3
      have hq : 72057594037927936 * (3 - 1) / (xs.getD (3 - 1) 0).toNat ≤ 72057594037927936 * (3 - 1) := Nat.div_le_self _ _
      obtain ⟨q, hq2⟩ : ∃ q : Nat, 72057594037927936 * (3 - 1) / (xs.getD (3 - 1) 0).toNat = q := ⟨_, rfl⟩
      rw [hq2] at hq ⊢
      omega
section
variable {w : World} {g bd  b : Nat} {s : DSt} 
set_option maxRecDepth 100000 in
set_option maxHeartbeats 6400000 in
theorem keep3_any (hL : LibW b w) (hb : b ≤ g) (hD : DeskAt w g s) (hO : DOk s) 
    (bD : Blk w bd 39 #[.pointer (some ⟨g, 0, none⟩)])  :
    Calls Tryz.prog 190 #[.pointer (some ⟨bd, 0, none⟩)] w fun e w' => Did w g (manyS s) e w' := by
  have HL := hide hL
  have HO := hide hO
  have HD := hide hD
  have hB := hO.nums
  obtain ⟨_, _, hfl, _, hfd⟩ := botErr_ok rfl hB
  obtain ⟨Ac, nc, cc, Ar, nr, cr, Ai, ni, ci, An, nn, cn, hg, ⟨h1, o1⟩, ⟨h2, o2⟩, ⟨h3, o3⟩, ⟨h4, o4⟩⟩ := hD
  have hgl := hg.lt
  rw [h4.ilen] at hB
  obtain ⟨V, hV⟩ : ∃ V, guV 3 nn s.nums = V := ⟨_, rfl⟩
  obtain ⟨E, hE⟩ : ∃ E, guE 3 nn s.nums = E := ⟨_, rfl⟩
  have CM := hide (fun w' (hb : Below w.heap.size w w') => many_ok (K := 3) (h4.on hb) hB hV hE)
  have HV := hide (gu_fit (E := E) hV (by rw [← h4.ilen]; exact hfl) hfd)
  have HS := hide (show manyS s = (E, s, toldOf [V]) by unfold manyS; rw [h4.ilen, hV, hE])
  rw [HS.out]
  clear hB hfl hfd hV hE HS
  have ad := bD.at_ (i := 0) (u := .pointer (some ⟨g, 0, none⟩)) rfl
  have a7 := hg.at_ (i := 7) (u := .int .i64 3) rfl
  have a8 := hg.at_ (i := 8) (u := .slice An nn cn) rfl
  have hbw : b ≤ w.heap.size := by omega
  clear hL hO
  go_enter Tryz.func190, Tryz.ntmps190
  go_wp2_with fail
  refine (CM.out _ (by repeat' (first | assumption | with_reducible exact Below.refl _ _ | with_reducible apply Below.drew | with_reducible apply below_drewN | with_reducible apply below_alloc | with_reducible refine below_set ?_ ?_ _ | (simp only [World.size_alloc, World.heap_drewN]; omega) | (simp; omega)))).mono ?_
  rintro e w1 ⟨rfl, b1⟩
  by_cases h0 : E = 0
  · subst h0
    go_wp2_with fail
    refine (one_ok (HL.out.on b1 hbw) (by have := b1.size; omega) HV.out).mono ?_
    rintro e w2 ⟨rfl, b2⟩
    go_wp2_with fail
    go_ret
    exact ⟨gbelow (below_on b1 b2) _, HD.out.on (below_on b1 b2), .inl ⟨rfl, rfl⟩⟩
  · go_wp2_with fail
    refine (one_bad h0).mono ?_
    rintro e w2 ⟨rfl, rfl⟩
    exact ⟨rfl, gbelow b1 _, HD.out.on b1, .inr ⟨h0, rfl⟩⟩
end
end Go.Proofs.YtjpbjghdplbdcaaGreatDoor
end
section
namespace Go.Proofs.YtjpbjghdplbdcaaGreatDoor
open Go.RowKit Go.Shelf
structure RA (W : World) (b g N c base : Nat) (d : Array Int) : Prop where
  rs : RS W b g N c base d.toList
  size : d.size = N
section
variable {W W' : World} {b g N c base : Nat} {d : Array Int}
theorem RA.drewN (h : RA W b g N c base d) (q : Nat) : RA (W.drewN q) b g N c base d := ⟨h.rs.drewN q, h.size⟩
theorem RA.below (h : RA W b g N c base d) (hb : Below W.heap.size W W') : RA W' b g N c base d := ⟨h.rs.below hb, h.size⟩
theorem RA.at_ (h : RA W b g N c base d) {i : Nat} (hi : i < N) : d.toList[i]? = some d[i]! := by
  have hs := h.size
  rw [getElem!_pos d i (by omega), Array.getElem?_toList]
  exact Array.getElem?_eq_getElem (by omega)
end
end Go.Proofs.YtjpbjghdplbdcaaGreatDoor
end
section
namespace Go.Proofs.YtjpbjghdplbdcaaGreatDoor
open Go.RowKit Go.Shelf
theorem RA.grown {W W' : World} {b g N c base s : Nat} {d : Array Int} (h : RA W b g N c base d) (hg : W.grownBy W' (some s)) (h1 : s ≠ b) (h2 : s ≠ g) : RA W' b g N c base d :=
  ⟨⟨h.rs.box.grown hg (fun e => h1 (by injection e)), h.rs.own.grown hg (fun g' e e2 => by injection e with e; injection e with e; injection e2 with e2; exact h2 (e2.trans e.symm))⟩, h.size⟩
section
variable {W : World} {b g N c base : Nat} {d : Array Int}
end
end Go.Proofs.YtjpbjghdplbdcaaGreatDoor
end
section
namespace Go.Proofs.YtjpbjghdplbdcaaGreatDoor
open Go.RowKit
section
variable {A : Option Addr} {n c : Nat} {l : List Ct} {w : World} {K L key : Int}
set_option maxRecDepth 20000 in
set_option maxHeartbeats 3200000 in
theorem fask_ok (h : Sp w A n c l) (hok : FwOk K L n l) (h0 : fwErr K L n l = 0) :
    Calls Tryz.prog 195 #[.agg #[.int .i64 K, .int .i64 L, .slice A n c], .int .i64 key] w fun e w' => e = .returned (.tuple #[.int .i64 (cnt l key), .int .i64 (cnt l key + L), .int .i64 0]) ∧ Below w.heap.size w w' := by
  have bp0 := Blk.new w 42 #[.int .i64 K, .int .i64 L, .slice A n c]
  have hb0 : Below w.heap.size w (w.alloc (.cells #[.int .i64 K, .int .i64 L, .slice A n c] 42)) := by repeat' (first | assumption | with_reducible exact Below.refl _ _ | with_reducible apply Below.drew | with_reducible apply below_drewN | with_reducible apply below_alloc | with_reducible refine below_set ?_ ?_ _ | (simp only [World.size_alloc, World.heap_drewN]; omega) | (simp; omega))
  have CC := hide (fcheck_any K L (h.on hb0))
  rw [h0] at CC
  have hn16 : n ≤ 16 := by have := hok.nk; have := hok.k2; omega
  have hl := h.plen
  have CF := hide (fun w' (hb : Below w.heap.size w w') => findC_any (key := key) (h.on hb) hok.up (by omega))
  have hpn : posC key l ≤ n := by rw [← hl]; exact posC_le key l
  have hcn := cnt_at key hok.up
  obtain ⟨P, hP⟩ : ∃ P, posC key l = P := ⟨_, rfl⟩
  rw [hP] at CF hpn hcn
  have b1 := hok.l1
  have b2 := hok.l2
  cases hh : hasC key l with
  | true =>
    rw [hh] at CF
    obtain ⟨s, hs, he⟩ : ∃ s, l[P]? = some s ∧ s.1 = key := by
      unfold hasC at hh
      rw [hP] at hh
      cases hs : l[P]? with
      | none => rw [hs] at hh; cases hh
      | some s => rw [hs] at hh; exact ⟨s, rfl, of_decide_eq_true hh⟩
    rw [hs] at hcn
    dsimp only at hcn
    rw [if_pos he] at hcn
    have hb := hok.cnt s (List.mem_of_getElem? hs)
    have hPn : P < n := by rw [← hl]; exact (List.getElem?_eq_some_iff.1 hs).1
    have HCN := hide hcn
    have HS := hide hs
    obtain ⟨s1, s2⟩ := s
    dsimp only at hb hcn
    have ez : IntKind.i64.wrap (s2 + L) = s2 + L := IntWalk.i64_in _ (by omega)
    clear hs hh hP he hcn hok h0 hl
    go_enter Tryz.func195, Tryz.ntmps195
    go_wp2_with fail
    refine CC.out.mono ?_
    rintro e w1 ⟨rfl, bel1⟩
    have bp1 := bp0.below bel1 bp0.lt
    have k1 := below_on hb0 bel1
    have q2 := bp1.at_ (i := 2) (u := .slice A n c) rfl
    clear bp0 hb0 bel1 CC
    go_wp2_with fail
    refine (CF.out _ k1).mono ?_
    rintro e w2 ⟨rfl, bel2⟩
    have bp2 := bp1.below bel2 bp1.lt
    have k2 := below_on k1 bel2
    obtain ⟨ad, s', rfl, hbk, hs', d0, d1⟩ := (h.below k2).pcell hPn
    rw [HS.out] at hs'
    injection hs' with hs'
    subst hs'
    dsimp only at d0 d1
    have p1 := bp2.at_ (i := 1) (u := .int .i64 L) rfl
    have p2 := bp2.at_ (i := 2) (u := .slice (some ad) n c) rfl
    clear q2 bp1 k1 bel2 CF
    go_wp2_with fail
    go_quiet (fail)
    go_wp2_with fail
    rw [HCN.out]
    go_ret3
    exact ⟨rfl, by repeat' (first | assumption | with_reducible exact Below.refl _ _ | with_reducible apply Below.drew | with_reducible apply below_drewN | with_reducible apply below_alloc | with_reducible refine below_set ?_ ?_ _ | (simp only [World.size_alloc, World.heap_drewN]; omega) | (simp; omega))⟩
  | false =>
    rw [hh] at CF
    have HCN := hide (show cnt l key = 0 by
      rw [hcn]
      cases hs : l[P]? with
      | none => rfl
      | some s =>
        dsimp only
        rw [if_neg]
        intro e
        unfold hasC at hh
        rw [hP, hs] at hh
        exact of_decide_eq_false hh e)
    have ez : IntKind.i64.wrap (0 + L) = 0 + L := IntWalk.i64_in _ (by omega)
    have ez2 : IntKind.i64.wrap L = L := IntWalk.i64_in _ (by omega)
    clear hh hP hcn hok h0 hl
    go_enter Tryz.func195, Tryz.ntmps195
    go_wp2_with fail
    refine CC.out.mono ?_
    rintro e w1 ⟨rfl, bel1⟩
    have bp1 := bp0.below bel1 bp0.lt
    have k1 := below_on hb0 bel1
    have q2 := bp1.at_ (i := 2) (u := .slice A n c) rfl
    clear bp0 hb0 bel1 CC
    go_wp2_with fail
    refine (CF.out _ k1).mono ?_
    rintro e w2 ⟨rfl, bel2⟩
    have bp2 := bp1.below bel2 bp1.lt
    have k2 := below_on k1 bel2
    have p1 := bp2.at_ (i := 1) (u := .int .i64 L) rfl
    clear q2 bp1 k1 bel2 CF
    go_wp2_with fail
    go_quiet (fail)
    go_wp2_with fail
    rw [HCN.out]
    go_ret3
    exact ⟨by simp, by repeat' (first | assumption | with_reducible exact Below.refl _ _ | with_reducible apply Below.drew | with_reducible apply below_drewN | with_reducible apply below_alloc | with_reducible refine below_set ?_ ?_ _ | (simp only [World.size_alloc, World.heap_drewN]; omega) | (simp; omega))⟩
end
end Go.Proofs.YtjpbjghdplbdcaaGreatDoor
end
section
namespace Go.Proofs.YtjpbjghdplbdcaaGreatDoor
open Go.RowKit
theorem put1_any (k v k2 v2 : Int) (w : World) (h1 : 0 ≤ v) (h2 : v ≤ 4000000000000000000) (h3 : 0 ≤ v2) (h4 : v2 ≤ 4000000000000000000) : Calls Tryz.prog 245 #[.agg #[.int .i64 k, .int .i64 v], .agg #[.int .i64 k2, .int .i64 v2]] w fun e w' => e = .returned (.int .i64 (v - v2)) ∧ Below w.heap.size w w' := by
  have ez : IntKind.i64.wrap (v - v2) = v - v2 := IntWalk.i64_in _ (by omega)
  go_enter Tryz.func245, Tryz.ntmps245
  go_wp2_with fail
  go_ret
  exact ⟨rfl, by repeat' (first | assumption | with_reducible exact Below.refl _ _ | with_reducible apply Below.drew | with_reducible apply below_drewN | with_reducible apply below_alloc | with_reducible refine below_set ?_ ?_ _ | (simp only [World.size_alloc, World.heap_drewN]; omega) | (simp; omega))⟩
def LeastC (l : List Ct) (k : Nat) (p : Ct) : Prop := p ∈ l ∧ ∀ j q, j < k → l[j]? = some q → p.2 ≤ q.2
theorem keepC {w1 W : World} {b g i : Nat} {v0 v1 u0 u1 : Value} (hb : b < w1.heap.size) (hg : g < w1.heap.size) (f0 : w1.cell? ⟨b, 0, none⟩ = some v0) (f1 : w1.cell? ⟨b, 1, none⟩ = some v1) {ad : Addr} (had : ad.block = g)
    (d0 : w1.cell? (ad.add i) = some u0) (d1 : w1.cell? ⟨(ad.add i).block, (ad.add i).off + 1, none⟩ = some u1) (h : Below w1.heap.size w1 W) :
    Below w1.heap.size w1 W ∧ W.cell? ⟨b, 0, none⟩ = some v0 ∧ W.cell? ⟨b, 1, none⟩ = some v1 ∧ W.cell? (ad.add i) = some u0 ∧ W.cell? ⟨(ad.add i).block, (ad.add i).off + 1, none⟩ = some u1 :=
  ⟨h, (h.cell (p := ⟨b, 0, none⟩) hb).trans f0, (h.cell (p := ⟨b, 1, none⟩) hb).trans f1, (h.cell (by rw [add_block]; omega)).trans d0, (h.cell (p := ⟨(ad.add i).block, (ad.add i).off + 1, none⟩) (by rw [add_block]; omega)).trans d1⟩
section
variable {A : Option Addr} {n c : Nat} {l : List Ct} {w : World}
set_option maxRecDepth 20000 in
set_option maxHeartbeats 6400000 in
theorem minf_any (h : Sp w A n c l) (hn0 : 0 < n) (hc : ∀ p ∈ l, 0 ≤ p.2 ∧ p.2 ≤ 4000000000000000000) (hn : n ≤ 1000) :
    Calls Tryz.prog 244 #[.slice A n c, .func (.func 245) #[] #[]] w fun e w' => ∃ k v : Int, e = .returned (.agg #[.int .i64 k, .int .i64 v]) ∧ LeastC l n (k, v) ∧ Below w.heap.size w w' := by
  have eg := entersF Tryz.func245 rfl rfl
  have HL := hide h.plen
  have HC := hide hc
  obtain ⟨ad, x, rfl, hbk, hx, hc0, hc1⟩ := h.pcell (j := 0) hn0
  rw [show ad.add (0 * 2) = ad by simp [Addr.add]] at hc0 hc1
  have H0 := hide (show LeastC l 1 x from ⟨List.mem_of_getElem? hx, fun j q hj hq => by
    obtain rfl : j = 0 := by omega
    rw [hx] at hq
    injection hq with hq
    rw [hq]
    exact Int.le_refl _⟩)
  clear hx hc
  obtain ⟨x1, x2⟩ := x
  dsimp only at hc0 hc1
  have t0 : ¬ (n : Int) < 1 := by omega
  go_enter Tryz.func244, Tryz.ntmps244
  go_wp2_with fail
  have b4 : Blk (((w.alloc (.cells #[.int .i64 0, .int .i64 0] 128))).alloc (.cells #[.int .i64 x1, .int .i64 x2] 128)) w.heap.size 128 #[.int .i64 0, .int .i64 0] := (Blk.new w _ _).alloc _
  have b5 : Blk (((w.alloc (.cells #[.int .i64 0, .int .i64 0] 128))).alloc (.cells #[.int .i64 x1, .int .i64 x2] 128)) (w.heap.size + 1) 128 #[.int .i64 x1, .int .i64 x2] := by
    have := Blk.new (w.alloc (.cells #[.int .i64 0, .int .i64 0] 128)) 128 #[.int .i64 x1, .int .i64 x2]
    rwa [World.size_alloc] at this
  have hb0 : Below w.heap.size w (((w.alloc (.cells #[.int .i64 0, .int .i64 0] 128))).alloc (.cells #[.int .i64 x1, .int .i64 x2] 128)) := by repeat' (first | assumption | with_reducible exact Below.refl _ _ | with_reducible apply Below.drew | with_reducible apply below_drewN | with_reducible apply below_alloc | with_reducible refine below_set ?_ ?_ _ | (simp only [World.size_alloc, World.heap_drewN]; omega) | (simp; omega))
  go_loopw [6] (fun i wr => ∃ (k : Nat) (p1 p2 : Int), i = .int .i64 k ∧ 1 ≤ k ∧ k ≤ n ∧ Hid (LeastC l k (p1, p2)) ∧ Blk wr w.heap.size 128 #[.int .i64 0, .int .i64 0] ∧ Blk wr (w.heap.size + 1) 128 #[.int .i64 p1, .int .i64 p2] ∧ Below w.heap.size w wr) (fun i _ => n - (intOf i).toNat)
  case atStart => exact ⟨1, x1, x2, by go_num, Nat.le_refl _, hn0, H0, b4, b5, hb0⟩
  case round =>
    clear b4 b5 hb0 H0 hc0 hc1
    obtain ⟨k, p1, p2, rfl, hk1, hk, HP, b4, b5, hb⟩ := hrel
    by_cases hlt : k < n
    · obtain ⟨ad', y, had, hbk', hy, hy0, hy1⟩ := (h.below hb).pcell hlt
      injection had with had
      subst had
      obtain ⟨c1, c2⟩ := HC.out y (List.mem_of_getElem? hy)
      obtain ⟨c3, c4⟩ := HC.out (p1, p2) HP.out.1
      have HY := hide hy
      clear hy
      obtain ⟨y1, y2⟩ := y
      dsimp only at hy0 hy1 c1 c2 c3 c4
      have f0 := b5.at_ (i := 0) (u := .int .i64 p1) rfl
      have f1 := b5.at_ (i := 1) (u := .int .i64 p2) rfl
      have l5 := b5.lt
      have hzr := hb.size
      go_upto_region 7 with fail
      go_region_held3 (fun w' => Below wr.heap.size wr w' ∧ w'.cell? ⟨w.heap.size + 1, 0, none⟩ = some (.int .i64 p1) ∧ w'.cell? ⟨w.heap.size + 1, 1, none⟩ = some (.int .i64 p2) ∧ w'.cell? (ad.add (k * 2)) = some (.int .i64 y1) ∧ w'.cell? ⟨(ad.add (k * 2)).block, (ad.add (k * 2)).off + 1, none⟩ = some (.int .i64 y2)) ((refine keepC l5 (g := ad.block) (by omega) f0 f1 rfl hy0 hy1 ?_; repeat' (first | assumption | with_reducible exact Below.refl _ _ | with_reducible apply Below.drew | with_reducible apply below_drewN | with_reducible apply below_alloc | with_reducible refine below_set ?_ ?_ _ | (simp only [World.size_alloc, World.heap_drewN]; omega) | (simp; omega))))
        (first | (go_at_call 245; refine (put1_any y1 y2 p1 p2 _ c1 c2 c3 c4).mono ?_; rintro e w5 ⟨rfl, bel5⟩; have hw5 : Below wr.heap.size wr w5 := below_on (by repeat' (first | assumption | with_reducible exact Below.refl _ _ | with_reducible apply Below.drew | with_reducible apply below_drewN | with_reducible apply below_alloc | with_reducible refine below_set ?_ ?_ _ | (simp only [World.size_alloc, World.heap_drewN]; omega) | (simp; omega))) bel5))
      have b4' := b4.below hw5 b4.lt
      have b5' := b5.below hw5 l5
      have hb5 := below_on hb hw5
      obtain ⟨_, e0, e1, e2, e3⟩ := keepC l5 (g := ad.block) (by omega) f0 f1 rfl hy0 hy1 hw5
      have g0 := b5'.free 0
      have g1 := b5'.free 1
      clear b4 b5 f0 f1 hy0 hy1 bel5
      by_cases hls : y2 < p2
      · have HN := hide (show LeastC l (k + 1) (y1, y2) from ⟨List.mem_of_getElem? HY.out, fun j q hj hq => by
          by_cases e : j = k
          · subst e; rw [HY.out] at hq; injection hq with hq; rw [← hq]; exact Int.le_refl _
          · have := HP.out.2 j q (by omega) hq; dsimp only at this ⊢; omega⟩)
        have t1 : y2 - p2 < 0 := by omega
        clear hls HP
        go_wp2_with fail
        go_roundw
        case rel => exact ⟨k + 1, y1, y2, by go_num, by omega, by omega, HN, (b4'.far (p := ⟨w.heap.size + 1, 0, none⟩) (by dsimp only; omega) _).far (p := ⟨w.heap.size + 1, 1, none⟩) (by dsimp only; omega) _, by simpa using (b5'.set 0 (.int .i64 y1)).set 1 (.int .i64 y2), below_set (below_set hb5 (by dsimp only; omega) _) (by dsimp only; omega) _⟩
        case measure => simp [intOf]; omega
      · have HN := hide (show LeastC l (k + 1) (p1, p2) from ⟨HP.out.1, fun j q hj hq => by
          by_cases e : j = k
          · subst e; rw [HY.out] at hq; injection hq with hq; rw [← hq]; dsimp only; omega
          · exact HP.out.2 j q (by omega) hq⟩)
        have t1 : ¬ y2 - p2 < 0 := by omega
        clear hls HP
        go_wp2_with fail
        go_roundw
        case rel => exact ⟨k + 1, p1, p2, by go_num, by omega, by omega, HN, b4', b5', hb5⟩
        case measure => simp [intOf]; omega
    · obtain rfl : k = n := by omega
      have f0 := b5.at_ (i := 0) (u := .int .i64 p1) rfl
      have f1 := b5.at_ (i := 1) (u := .int .i64 p2) rfl
      have z0 := b4.at_ (i := 0) (u := .int .i64 0) rfl
      have z1 := b4.at_ (i := 1) (u := .int .i64 0) rfl
      have g0 := b4.free 0
      have g1 := b4.free 1
      go_wp2_with fail
      have bf := (b4.set 0 (.int .i64 p1)).set 1 (.int .i64 p2)
      have r0 := bf.at_ (i := 0) (u := .int .i64 p1) rfl
      have r1 := bf.at_ (i := 1) (u := .int .i64 p2) rfl
      have hbf := below_set (below_set hb (p := ⟨w.heap.size, 0, none⟩) (Nat.le_refl _) (.int .i64 p1)) (p := ⟨w.heap.size, 1, none⟩) (Nat.le_refl _) (.int .i64 p2)
      clear z0 z1 g0 g1 f0 f1
      generalize (wr.setCell ⟨w.heap.size, 0, none⟩ (.int .i64 p1)).setCell ⟨w.heap.size, 1, none⟩ (.int .i64 p2) = wf at bf r0 r1 hbf ⊢
      exact bodyPost_ret (v := .agg #[.int .i64 p1, .int .i64 p2]) (by simp [results, Tryz.results244, go_sem, r0, r1]) rfl ⟨p1, p2, rfl, HP.out, hbf⟩
end
end Go.Proofs.YtjpbjghdplbdcaaGreatDoor
end
section
namespace Go.Proofs.YtjpbjghdplbdcaaGreatDoor
open Go.RowKit
theorem fewTwo (w : World) (cs : Array Value) : Blk ((w.alloc (.cells cs 42)).alloc (.cells noFew 42)) w.heap.size 42 cs ∧ Blk ((w.alloc (.cells cs 42)).alloc (.cells noFew 42)) (w.heap.size + 1) 42 noFew := by
  refine ⟨(Blk.new w _ _).alloc _, ?_⟩
  have := Blk.new (w.alloc (.cells cs 42)) 42 noFew
  rwa [World.size_alloc] at this
section
variable {A : Option Addr} {n c : Nat} {l : List Ct} {w : World} {K L key v : Int}
set_option maxRecDepth 20000 in
set_option maxHeartbeats 3200000 in
theorem fput_arg (h : Sp w A n c l) (hE : fwErr K L n l = 0) (hv : v < 1 ∨ 1000000000000 < v) :
    Calls Tryz.prog 193 #[.agg #[.int .i64 K, .int .i64 L, .slice A n c], .int .i64 key, .int .i64 v] w fun e w' => e = .returned (.tuple #[.agg noFew, .int .i64 1]) ∧ Below w.heap.size w w' := by
  obtain ⟨p0, r0⟩ := fewTwo w #[.int .i64 K, .int .i64 L, .slice A n c]
  have hb0 : Below w.heap.size w ((w.alloc (.cells #[.int .i64 K, .int .i64 L, .slice A n c] 42)).alloc (.cells noFew 42)) := by repeat' (first | assumption | with_reducible exact Below.refl _ _ | with_reducible apply Below.drew | with_reducible apply below_drewN | with_reducible apply below_alloc | with_reducible refine below_set ?_ ?_ _ | (simp only [World.size_alloc, World.heap_drewN]; omega) | (simp; omega))
  have CC := hide (fcheck_any K L (h.on hb0))
  rw [hE] at CC
  clear hE h
  have HF := hide (show ∀ w1 : World, Blk w1 (w.heap.size + 1) 42 noFew → Below w.heap.size w w1 → Blk (((w1.setCell ⟨w.heap.size + 1, 0, none⟩ (.int .i64 0)).setCell ⟨w.heap.size + 1, 1, none⟩ (.int .i64 0)).setCell ⟨w.heap.size + 1, 2, none⟩ (.slice none 0 0)) (w.heap.size + 1) 42 noFew ∧ Below w.heap.size w (((w1.setCell ⟨w.heap.size + 1, 0, none⟩ (.int .i64 0)).setCell ⟨w.heap.size + 1, 1, none⟩ (.int .i64 0)).setCell ⟨w.heap.size + 1, 2, none⟩ (.slice none 0 0)) from fun w1 r1 k1 => ⟨by
    simpa [noFew] using ((r1.set 0 (.int .i64 0)).set 1 (.int .i64 0)).set 2 (.slice none 0 0), below_set (below_set (below_set k1 (by dsimp only; omega) _) (by dsimp only; omega) _) (by dsimp only; omega) _⟩)
  by_cases h1 : v < 1
  all_goals
    (try have h2 : 1000000000000 < v := by omega)
    clear hv
    go_enter Tryz.func193, Tryz.ntmps193
    go_wp2_with fail
    refine CC.out.mono ?_
    rintro e w1 ⟨rfl, b1⟩
    have r1 := r0.below b1 r0.lt
    have k1 := below_on hb0 b1
    have z0 := r1.at_ (i := 0) (u := .int .i64 0) rfl
    have z1 := r1.at_ (i := 1) (u := .int .i64 0) rfl
    have z2 := r1.at_ (i := 2) (u := .slice none 0 0) rfl
    have f0 := r1.free 0
    have f1 := r1.free 1
    have f2 := r1.free 2
    clear p0 r0 b1 hb0
    go_wp2_with fail
    obtain ⟨bf, hbf⟩ := HF.out _ r1 k1
    clear z0 z1 z2 f0 f1 f2
    generalize (((w1.setCell ⟨w.heap.size + 1, 0, none⟩ (.int .i64 0)).setCell ⟨w.heap.size + 1, 1, none⟩ (.int .i64 0)).setCell ⟨w.heap.size + 1, 2, none⟩ (.slice none 0 0)) = wf at bf hbf ⊢
    have z0 := bf.at_ (i := 0) (u := .int .i64 0) rfl
    have z1 := bf.at_ (i := 1) (u := .int .i64 0) rfl
    have z2 := bf.at_ (i := 2) (u := .slice none 0 0) rfl
    exact bodyPost_ret (v := .tuple #[.agg noFew, .int .i64 1]) (by simp [results, Tryz.results193, go_sem, z0, z1, z2]) rfl ⟨rfl, hbf⟩
end
end Go.Proofs.YtjpbjghdplbdcaaGreatDoor
end
