/-
  sort.median and sort.choosePivot over the reversed row: the walks. Conditions: the row; from eight to forty-nine places.
-/
import Derived.Test.YtfopihlbdceepaaGreatPins
namespace Go.Proofs.YtfopihlbdceepaaGreat
open Go.RowKit Go.Shelf

section
variable {W : World} {b g N c base : Nat} {d : Array Int}
set_option maxRecDepth 100000 in
set_option maxHeartbeats 3200000 in
theorem median_any (h : RA W b g N c base d) {s k x y z : Nat} (hs : Blk W s 3 #[.int .i64 k]) (hk : k ≤ 50) (hx : x < N) (hy : y < N) (hz : z < N) (hN : N ≤ 1000) (hsb : s ≠ b) (hsg : s ≠ g) :
    Calls Tryz.prog 91 #[.iface 76 (.pointer (some ⟨b, 0, none⟩)), .int .i64 x, .int .i64 y, .int .i64 z, .pointer (some ⟨s, 0, none⟩)] W fun r w' => ∃ m k' : Nat, r = .returned (.int .i64 m) ∧ (m = x ∨ m = y ∨ m = z) ∧ k' ≤ k + 3 ∧ Blk w' s 3 #[.int .i64 k'] ∧ RA w' b g N c base d ∧ W.grownBy w' (some s) := by
  have C1 := hide (order2_any h hs (by omega) hx hy hN hsb hsg)
  have H := hide (show x < N ∧ y < N ∧ z < N from ⟨hx, hy, hz⟩)
  clear h hs
  go_enter Tryz.func91, Tryz.ntmps91
  go_wp2_with fail
  refine C1.out.mono ?_
  rintro r w1 ⟨x1, y1, k1, rfl, e1, hk1, hs1, h1, g1⟩
  have C2 := hide (order2_any h1 hs1 (x := y1) (y := z) (by omega) (by omega) hz hN hsb hsg)
  have G1 := hide g1
  clear C1 h1 hs1 g1
  go_wp2_with fail
  refine C2.out.mono ?_
  rintro r w2 ⟨x2, y2, k2, rfl, e2, hk2, hs2, h2, g2⟩
  have C3 := hide (order2_any h2 hs2 (x := x1) (y := x2) (by omega) (by omega) (by omega) hN hsb hsg)
  have G2 := hide (grown_trans G1.out g2)
  clear C2 h2 hs2 g2 G1
  go_wp2_with fail
  refine C3.out.mono ?_
  rintro r w3 ⟨x3, y3, k3, rfl, e3, hk3, hs3, h3, g3⟩
  have G3 := hide (grown_trans G2.out g3)
  have HM := hide (show y3 = x ∨ y3 = y ∨ y3 = z by omega)
  have HK := hide (show k3 ≤ k + 3 by omega)
  clear C3 e1 e2 e3 g3 G2 hk1 hk2 hk3
  go_wp2_with fail
  go_ret
  exact ⟨y3, k3, rfl, HM.out, HK.out, hs3, h3, G3.out⟩
set_option maxRecDepth 100000 in
set_option maxHeartbeats 3200000 in
theorem pivot_any (h : RA W b g N c base d) {a e : Nat} (hae : a + 8 ≤ e) (h50 : e < a + 50) (heN : e ≤ N) (hN : N ≤ 1000) :
    Calls Tryz.prog 72 #[.iface 76 (.pointer (some ⟨b, 0, none⟩)), .int .i64 a, .int .i64 e] W fun r w' => ∃ (p : Nat) (hint : Int), r = .returned (.tuple #[.int .i64 p, .int .i64 hint]) ∧ a ≤ p ∧ p < e ∧ (hint = 0 ∨ hint = 1) ∧ RA w' b g N c base d ∧ W.grownBy w' (some g) := by
  obtain ⟨L, rfl⟩ : ∃ L, e = a + L := ⟨e - a, by omega⟩
  have hsb : W.heap.size ≠ b := by have := h.rs.box.lt; omega
  have hsg : W.heap.size ≠ g := by
    obtain ⟨g', e1, _, h3⟩ := h.rs.own.addr (by omega)
    injection e1 with e1
    injection e1 with e1
    omega
  have hb0 : Below W.heap.size W (W.alloc (.cells #[.int .i64 0] 3)) := by repeat' (first | assumption | with_reducible exact Below.refl _ _ | with_reducible apply Below.drew | with_reducible apply below_drewN | with_reducible apply below_alloc | with_reducible refine below_set ?_ ?_ _ | (simp only [World.size_alloc, World.heap_drewN]; omega) | (simp; omega))
  have bs := Blk.new W 3 #[.int .i64 0]
  have CM := hide (median_any (h.below hb0) (s := W.heap.size) (k := 0) bs (by omega) (x := a + L / 4 * 1) (y := a + L / 4 * 2) (z := a + L / 4 * 3) (by omega) (by omega) (by omega) hN hsb hsg)
  have t0 : (a : Int) + (L : Int) - (a : Int) = (L : Int) := by omega
  have t1 : (8 : Int) ≤ (L : Int) := by omega
  have t2 : ¬ (50 : Int) ≤ (L : Int) := by omega
  have u1 : ((a + L / 4 * 1 : Nat) : Int) = (a : Int) + (L : Int) / 4 := by omega
  have u2 : ((a + L / 4 * 2 : Nat) : Int) = (a : Int) + (L : Int) / 4 * 2 := by omega
  have u3 : ((a + L / 4 * 3 : Nat) : Int) = (a : Int) + (L : Int) / 4 * 3 := by omega
  rw [u1, u2, u3] at CM
  have hL := hide (show ∀ m : Nat, (m = a + L / 4 * 1 ∨ m = a + L / 4 * 2 ∨ m = a + L / 4 * 3) → a ≤ m ∧ m < a + L from fun m hm => by omega)
  clear u1 u2 u3 h
  go_enter Tryz.func72, Tryz.ntmps72
  go_wp2_with fail
  refine CM.out.mono ?_
  rintro r w1 ⟨m, k, rfl, hm, hk, hs1, h1, g1⟩
  obtain ⟨m1, m2⟩ := hL.out m hm
  have G1 := hide (World.grownBy.andThen (World.grownBy_alloc W (.cells #[.int .i64 0] 3) (some g)) g1 (fun j hj => .inl (by injection hj with hj; omega)))
  have s0 := hs1.at_ (i := 0) (u := .int .i64 k) rfl
  have k12 : ¬ (k : Int) = 12 := by omega
  clear hm g1 CM bs
  by_cases hk0 : k = 0
  · subst hk0
    go_wp2_with fail
    go_ret2
    exact ⟨m, 1, rfl, m1, m2, .inr rfl, h1, G1.out⟩
  · have k0 : ¬ (k : Int) = 0 := by omega
    go_wp2_with fail
    go_ret2
    exact ⟨m, 0, rfl, m1, m2, .inl rfl, h1, G1.out⟩
end
end Go.Proofs.YtfopihlbdceepaaGreat
