/-
  slices.MinFunc at the counters, by how often they came: the walk. Conditions: the counters read as a list of pairs; there is one; their bounds.
-/
import Derived.Test.YtfopihlbdceepaaFew1
import Derived.Test.YtfopihlbdceepaaRev
import Derived.Deep.RegionHeld3
namespace Go.Proofs.Ytfopihlbdceepaa
open Go.RowKit

theorem put1_any (k v k2 v2 : Int) (w : World) (h1 : 0 ≤ v) (h2 : v ≤ 4000000000000000000) (h3 : 0 ≤ v2) (h4 : v2 ≤ 4000000000000000000) : Calls Try.prog 35 #[.agg #[.int .i64 k, .int .i64 v], .agg #[.int .i64 k2, .int .i64 v2]] w fun e w' => e = .returned (.int .i64 (v - v2)) ∧ Below w.heap.size w w' := by
  have ez : IntKind.i64.wrap (v - v2) = v - v2 := IntWalk.i64_in _ (by omega)
  go_enter Try.func35, Try.ntmps35
  go_wp2_with fail
  go_ret
  exact ⟨rfl, by repeat' (first | assumption | with_reducible exact Below.refl _ _ | with_reducible apply Below.drew | with_reducible apply below_drewN | with_reducible apply below_alloc | with_reducible refine below_set ?_ ?_ _ | (simp only [World.size_alloc, World.heap_drewN]; omega) | (simp; omega))⟩
/-- The least one of the first k. -/
def LeastC (l : List Ct) (k : Nat) (p : Ct) : Prop := p ∈ l ∧ ∀ j q, j < k → l[j]? = some q → p.2 ≤ q.2
theorem keepC {w1 W : World} {b g i : Nat} {v0 v1 u0 u1 : Value} (hb : b < w1.heap.size) (hg : g < w1.heap.size) (f0 : w1.cell? ⟨b, 0, none⟩ = some v0) (f1 : w1.cell? ⟨b, 1, none⟩ = some v1) {ad : Addr} (had : ad.block = g)
    (d0 : w1.cell? (ad.add i) = some u0) (d1 : w1.cell? ⟨(ad.add i).block, (ad.add i).off + 1, none⟩ = some u1) (h : Below w1.heap.size w1 W) :
    Below w1.heap.size w1 W ∧ W.cell? ⟨b, 0, none⟩ = some v0 ∧ W.cell? ⟨b, 1, none⟩ = some v1 ∧ W.cell? (ad.add i) = some u0 ∧ W.cell? ⟨(ad.add i).block, (ad.add i).off + 1, none⟩ = some u1 :=
  ⟨h, (h.cell (p := ⟨b, 0, none⟩) hb).trans f0, (h.cell (p := ⟨b, 1, none⟩) hb).trans f1, (h.cell (by rw [add_block]; omega)).trans d0, (h.cell (p := ⟨(ad.add i).block, (ad.add i).off + 1, none⟩) (by rw [add_block]; omega)).trans d1⟩
section
variable {A : Option Addr} {n c : Nat} {l : List Ct} {w : World}
set_option maxRecDepth 20000 in
set_option maxHeartbeats 6400000 in
theorem minf_any (h : Sp w A n c l) (hn0 : 0 < n) (hc : ∀ p ∈ l, 0 ≤ p.2 ∧ p.2 ≤ 4000000000000000000) (hn : n ≤ 1000) :
    Calls Try.prog 34 #[.slice A n c, .func (.func 35) #[] #[]] w fun e w' => ∃ k v : Int, e = .returned (.agg #[.int .i64 k, .int .i64 v]) ∧ LeastC l n (k, v) ∧ Below w.heap.size w w' := by
  have eg := entersF Try.func35 rfl rfl
  have HL := hide h.plen
  have HC := hide hc
  obtain ⟨ad, x, rfl, hbk, hx, hc0, hc1⟩ := h.pcell (j := 0) hn0
  rw [show ad.add (0 * 2) = ad by simp [Addr.add]] at hc0 hc1
  have H0 := hide (show LeastC l 1 x from ⟨List.mem_of_getElem? hx, fun j q hj hq => by
    obtain rfl : j = 0 := by omega
    rw [hx] at hq
    injection hq with hq
    rw [hq]
    exact Int.le_refl _⟩)
  clear hx hc
  obtain ⟨x1, x2⟩ := x
  dsimp only at hc0 hc1
  have t0 : ¬ (n : Int) < 1 := by omega
  go_enter Try.func34, Try.ntmps34
  go_wp2_with fail
  have b4 : Blk (((w.alloc (.cells #[.int .i64 0, .int .i64 0] 50))).alloc (.cells #[.int .i64 x1, .int .i64 x2] 50)) w.heap.size 50 #[.int .i64 0, .int .i64 0] := (Blk.new w _ _).alloc _
  have b5 : Blk (((w.alloc (.cells #[.int .i64 0, .int .i64 0] 50))).alloc (.cells #[.int .i64 x1, .int .i64 x2] 50)) (w.heap.size + 1) 50 #[.int .i64 x1, .int .i64 x2] := by
    have := Blk.new (w.alloc (.cells #[.int .i64 0, .int .i64 0] 50)) 50 #[.int .i64 x1, .int .i64 x2]
    rwa [World.size_alloc] at this
  have hb0 : Below w.heap.size w (((w.alloc (.cells #[.int .i64 0, .int .i64 0] 50))).alloc (.cells #[.int .i64 x1, .int .i64 x2] 50)) := by repeat' (first | assumption | with_reducible exact Below.refl _ _ | with_reducible apply Below.drew | with_reducible apply below_drewN | with_reducible apply below_alloc | with_reducible refine below_set ?_ ?_ _ | (simp only [World.size_alloc, World.heap_drewN]; omega) | (simp; omega))
  go_loopw [6] (fun i wr => ∃ (k : Nat) (p1 p2 : Int), i = .int .i64 k ∧ 1 ≤ k ∧ k ≤ n ∧ Hid (LeastC l k (p1, p2)) ∧ Blk wr w.heap.size 50 #[.int .i64 0, .int .i64 0] ∧ Blk wr (w.heap.size + 1) 50 #[.int .i64 p1, .int .i64 p2] ∧ Below w.heap.size w wr) (fun i _ => n - (intOf i).toNat)
  case atStart => exact ⟨1, x1, x2, by go_num, Nat.le_refl _, hn0, H0, b4, b5, hb0⟩
  case round =>
    clear b4 b5 hb0 H0 hc0 hc1
    obtain ⟨k, p1, p2, rfl, hk1, hk, HP, b4, b5, hb⟩ := hrel
    by_cases hlt : k < n
    · obtain ⟨ad', y, had, hbk', hy, hy0, hy1⟩ := (h.below hb).pcell hlt
      injection had with had
      subst had
      obtain ⟨c1, c2⟩ := HC.out y (List.mem_of_getElem? hy)
      obtain ⟨c3, c4⟩ := HC.out (p1, p2) HP.out.1
      have HY := hide hy
      clear hy
      obtain ⟨y1, y2⟩ := y
      dsimp only at hy0 hy1 c1 c2 c3 c4
      have f0 := b5.at_ (i := 0) (u := .int .i64 p1) rfl
      have f1 := b5.at_ (i := 1) (u := .int .i64 p2) rfl
      have l5 := b5.lt
      have hzr := hb.size
      go_upto_region 7 with fail
      go_region_held3 (fun w' => Below wr.heap.size wr w' ∧ w'.cell? ⟨w.heap.size + 1, 0, none⟩ = some (.int .i64 p1) ∧ w'.cell? ⟨w.heap.size + 1, 1, none⟩ = some (.int .i64 p2) ∧ w'.cell? (ad.add (k * 2)) = some (.int .i64 y1) ∧ w'.cell? ⟨(ad.add (k * 2)).block, (ad.add (k * 2)).off + 1, none⟩ = some (.int .i64 y2)) ((refine keepC l5 (g := ad.block) (by omega) f0 f1 rfl hy0 hy1 ?_; repeat' (first | assumption | with_reducible exact Below.refl _ _ | with_reducible apply Below.drew | with_reducible apply below_drewN | with_reducible apply below_alloc | with_reducible refine below_set ?_ ?_ _ | (simp only [World.size_alloc, World.heap_drewN]; omega) | (simp; omega))))
        (first | (go_at_call 35; refine (put1_any y1 y2 p1 p2 _ c1 c2 c3 c4).mono ?_; rintro e w5 ⟨rfl, bel5⟩; have hw5 : Below wr.heap.size wr w5 := below_on (by repeat' (first | assumption | with_reducible exact Below.refl _ _ | with_reducible apply Below.drew | with_reducible apply below_drewN | with_reducible apply below_alloc | with_reducible refine below_set ?_ ?_ _ | (simp only [World.size_alloc, World.heap_drewN]; omega) | (simp; omega))) bel5))
      have b4' := b4.below hw5 b4.lt
      have b5' := b5.below hw5 l5
      have hb5 := below_on hb hw5
      obtain ⟨_, e0, e1, e2, e3⟩ := keepC l5 (g := ad.block) (by omega) f0 f1 rfl hy0 hy1 hw5
      have g0 := b5'.free 0
      have g1 := b5'.free 1
      clear b4 b5 f0 f1 hy0 hy1 bel5
      by_cases hls : y2 < p2
      · have HN := hide (show LeastC l (k + 1) (y1, y2) from ⟨List.mem_of_getElem? HY.out, fun j q hj hq => by
          by_cases e : j = k
          · subst e; rw [HY.out] at hq; injection hq with hq; rw [← hq]; exact Int.le_refl _
          · have := HP.out.2 j q (by omega) hq; dsimp only at this ⊢; omega⟩)
        have t1 : y2 - p2 < 0 := by omega
        clear hls HP
        go_wp2_with fail
        go_roundw
        case rel => exact ⟨k + 1, y1, y2, by go_num, by omega, by omega, HN, (b4'.far (p := ⟨w.heap.size + 1, 0, none⟩) (by dsimp only; omega) _).far (p := ⟨w.heap.size + 1, 1, none⟩) (by dsimp only; omega) _, by simpa using (b5'.set 0 (.int .i64 y1)).set 1 (.int .i64 y2), below_set (below_set hb5 (by dsimp only; omega) _) (by dsimp only; omega) _⟩
        case measure => simp [intOf]; omega
      · have HN := hide (show LeastC l (k + 1) (p1, p2) from ⟨HP.out.1, fun j q hj hq => by
          by_cases e : j = k
          · subst e; rw [HY.out] at hq; injection hq with hq; rw [← hq]; dsimp only; omega
          · exact HP.out.2 j q (by omega) hq⟩)
        have t1 : ¬ y2 - p2 < 0 := by omega
        clear hls HP
        go_wp2_with fail
        go_roundw
        case rel => exact ⟨k + 1, p1, p2, by go_num, by omega, by omega, HN, b4', b5', hb5⟩
        case measure => simp [intOf]; omega
    · obtain rfl : k = n := by omega
      have f0 := b5.at_ (i := 0) (u := .int .i64 p1) rfl
      have f1 := b5.at_ (i := 1) (u := .int .i64 p2) rfl
      have z0 := b4.at_ (i := 0) (u := .int .i64 0) rfl
      have z1 := b4.at_ (i := 1) (u := .int .i64 0) rfl
      have g0 := b4.free 0
      have g1 := b4.free 1
      go_wp2_with fail
      have bf := (b4.set 0 (.int .i64 p1)).set 1 (.int .i64 p2)
      have r0 := bf.at_ (i := 0) (u := .int .i64 p1) rfl
      have r1 := bf.at_ (i := 1) (u := .int .i64 p2) rfl
      have hbf := below_set (below_set hb (p := ⟨w.heap.size, 0, none⟩) (Nat.le_refl _) (.int .i64 p1)) (p := ⟨w.heap.size, 1, none⟩) (Nat.le_refl _) (.int .i64 p2)
      clear z0 z1 g0 g1 f0 f1
      generalize (wr.setCell ⟨w.heap.size, 0, none⟩ (.int .i64 p1)).setCell ⟨w.heap.size, 1, none⟩ (.int .i64 p2) = wf at bf r0 r1 hbf ⊢
      exact bodyPost_ret (v := .agg #[.int .i64 p1, .int .i64 p2]) (by simp [results, Try.results34, go_sem, r0, r1]) rfl ⟨p1, p2, rfl, HP.out, hbf⟩
end
end Go.Proofs.Ytfopihlbdceepaa
