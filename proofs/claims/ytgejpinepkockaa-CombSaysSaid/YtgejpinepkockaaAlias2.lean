/-
  culref.Table: the walk. Conditions: the two slices read as lists of numbers.
-/
import Derived.Test.YtgejpinepkockaaAlias
namespace Go.Proofs.Ytgejpinepkockaa
open Go.RowKit

theorem within_q (x a b : Int) (w : World) : Calls Try.prog 82 #[.int .i64 x, .int .i64 a, .int .i64 b] w fun e w' => e = .returned (.bool (inR x a b)) ∧ w' = w :=
  (within_any x a b w).mono fun _ _ ⟨he, hw⟩ => ⟨he, hw.symm⟩

set_option maxRecDepth 20000 in
set_option maxHeartbeats 1600000 in
theorem table_any (all : Int) (A1 A2 : Option Addr) (n1 c1 n2 c2 : Nat) (own rest : List Int) (w : World) (h1 : Si w A1 n1 c1 own) (h2 : Si w A2 n2 c2 rest) :
    Calls Try.prog 26 #[.agg #[.int .i64 all, .slice A1 n1 c1, .slice A2 n2 c2]] w fun e w' => e = .returned (.int .i64 (aliasErr all n1 n2 own rest)) ∧ Below w.heap.size w w' := by
  have hm1 := h1.len_max
  have hm2 := h2.len_max
  by_cases g1 : 40 < n1
  · have E := hide (show aliasErr all n1 n2 own rest = 2 by unfold aliasErr; rw [if_pos (.inl g1)])
    go_enter Try.func26, Try.ntmps26
    go_wp2
    go_ret
    exact ⟨by rw [E.out]; rfl, by repeat' (first | assumption | with_reducible exact Below.refl _ _ | with_reducible apply Below.drew | with_reducible apply below_drewN | with_reducible apply below_alloc | with_reducible refine below_set ?_ ?_ _ | (simp only [World.size_alloc, World.heap_drewN]; omega) | (simp; omega))⟩
  by_cases g2 : 40 < n2
  · have E := hide (show aliasErr all n1 n2 own rest = 2 by unfold aliasErr; rw [if_pos (.inr g2)])
    go_enter Try.func26, Try.ntmps26
    go_wp2
    go_ret
    exact ⟨by rw [E.out]; rfl, by repeat' (first | assumption | with_reducible exact Below.refl _ _ | with_reducible apply Below.drew | with_reducible apply below_drewN | with_reducible apply below_alloc | with_reducible refine below_set ?_ ?_ _ | (simp only [World.size_alloc, World.heap_drewN]; omega) | (simp; omega))⟩
  by_cases g4 : n1 = 0
  · have E := hide (show aliasErr all n1 n2 own rest = 7 by unfold aliasErr; rw [if_neg (by omega), if_pos (.inr g4)])
    subst g4
    go_enter Try.func26, Try.ntmps26
    go_wp2
    go_ret
    exact ⟨by rw [E.out]; rfl, by repeat' (first | assumption | with_reducible exact Below.refl _ _ | with_reducible apply Below.drew | with_reducible apply below_drewN | with_reducible apply below_alloc | with_reducible refine below_set ?_ ?_ _ | (simp only [World.size_alloc, World.heap_drewN]; omega) | (simp; omega))⟩
  have t4 : ((n1 : Int) == 0) = false := by simp [g4]
  by_cases g3 : n1 = n2
  · subst g3
    by_cases g5 : 1 ≤ all ∧ all ≤ 40000000000000
    · have E : aliasErr all n1 n1 own rest = if okTo (cellOk all n1 own rest) n1 = true then 0 else 1 := by unfold aliasErr; rw [if_neg (by omega), if_neg (by omega), if_neg (by omega)]
      have HE := hide E
      clear E
      have t5 := inR_yes g5
      obtain ⟨g6, g7⟩ := g5
      have pb0 := Blk.new w 40 #[.int .i64 all, .slice A1 n1 c1, .slice A2 n1 c2]
      go_enter Try.func26, Try.ntmps26
      go_wp2_with (go_at_call 82; refine (within_any _ _ _ _).mono ?_; rintro e w' ⟨rfl, rfl⟩)
      go_loopw [33] (fun i wr => ∃ k : Nat, k ≤ n1 ∧ i = .int .i64 k ∧ okTo (cellOk all n1 own rest) k = true ∧ Blk wr w.heap.size 40 #[.int .i64 all, .slice A1 n1 c1, .slice A2 n1 c2] ∧ Below w.heap.size w wr) (fun i _ => n1 - (intOf i).toNat)
      case atStart => exact ⟨0, Nat.zero_le _, rfl, rfl, pb0, by repeat' (first | assumption | with_reducible exact Below.refl _ _ | with_reducible apply Below.drew | with_reducible apply below_drewN | with_reducible apply below_alloc | with_reducible refine below_set ?_ ?_ _ | (simp only [World.size_alloc, World.heap_drewN]; omega) | (simp; omega))⟩
      case round =>
        obtain ⟨k, hk, rfl, hok, pb, hwr⟩ := hrel
        have HOK := hide hok
        clear hok
        have p0 := pb.at_ (i := 0) rfl
        have p1 := pb.at_ (i := 1) rfl
        have p2 := pb.at_ (i := 2) rfl
        by_cases hlt : k < n1
        · obtain ⟨ad, x, rfl, hb, hx, hc⟩ := (h1.on hwr).icell hlt
          obtain ⟨ae, y, rfl, hbe, hy, hd⟩ := (h2.on hwr).icell hlt
          have HC := hide (cellOk_is (all := all) (n := n1) hx hy)
          clear hx hy
          have s1 : IntKind.i64.wrap ((n1 : Int) - 1) = (n1 : Int) - 1 := IntWalk.i64_in _ (by omega)
          by_cases a1 : 0 ≤ x ∧ x ≤ all
          · have d1 := inR_yes a1
            by_cases a2 : 0 ≤ y ∧ y ≤ (n1 : Int) - 1
            · have d2 := inR_yes a2
              have HN := hide (okTo_next HOK.out (show cellOk all n1 own rest k = true by rw [HC.out, d1, d2]; rfl))
              clear a1 a2
              go_wp2_with fail
              go_quiet ((go_at_call 82; exact Calls.quiet_of_same (within_q _ _ _ _)))
              go_wp2
              go_roundw
              case rel => exact ⟨k + 1, by omega, by go_num, HN.out, pb.drewN _, by repeat' (first | assumption | with_reducible exact Below.refl _ _ | with_reducible apply Below.drew | with_reducible apply below_drewN | with_reducible apply below_alloc | with_reducible refine below_set ?_ ?_ _ | (simp only [World.size_alloc, World.heap_drewN]; omega) | (simp; omega))⟩
              case measure => simp [intOf]; omega
            · have d2 := inR_no a2
              have B := hide (show aliasErr all n1 n1 own rest = 1 by rw [HE.out, if_neg]; rw [okTo_bad (k := k) _ n1 hlt]; simp; rw [HC.out, d1, d2]; rfl)
              clear a1 a2
              go_wp2_with fail
              go_quiet ((go_at_call 82; exact Calls.quiet_of_same (within_q _ _ _ _)))
              go_wp2
              go_ret
              exact ⟨by rw [B.out]; rfl, by repeat' (first | assumption | with_reducible exact Below.refl _ _ | with_reducible apply Below.drew | with_reducible apply below_drewN | with_reducible apply below_alloc | with_reducible refine below_set ?_ ?_ _ | (simp only [World.size_alloc, World.heap_drewN]; omega) | (simp; omega))⟩
          · have d1 := inR_no a1
            have B := hide (show aliasErr all n1 n1 own rest = 1 by rw [HE.out, if_neg]; rw [okTo_bad (k := k) _ n1 hlt]; simp; rw [HC.out, d1]; rfl)
            clear a1
            go_wp2_with fail
            go_quiet ((go_at_call 82; exact Calls.quiet_of_same (within_q _ _ _ _)))
            go_wp2
            go_ret
            exact ⟨by rw [B.out]; rfl, by repeat' (first | assumption | with_reducible exact Below.refl _ _ | with_reducible apply Below.drew | with_reducible apply below_drewN | with_reducible apply below_alloc | with_reducible refine below_set ?_ ?_ _ | (simp only [World.size_alloc, World.heap_drewN]; omega) | (simp; omega))⟩
        · obtain rfl : k = n1 := by omega
          go_wp2
          go_ret
          exact ⟨by rw [HE.out, if_pos HOK.out]; rfl, by repeat' (first | assumption | with_reducible exact Below.refl _ _ | with_reducible apply Below.drew | with_reducible apply below_drewN | with_reducible apply below_alloc | with_reducible refine below_set ?_ ?_ _ | (simp only [World.size_alloc, World.heap_drewN]; omega) | (simp; omega))⟩
    · have E := hide (show aliasErr all n1 n1 own rest = 1 by unfold aliasErr; rw [if_neg (by omega), if_neg (by omega), if_pos g5])
      have t5 := inR_no g5
      go_enter Try.func26, Try.ntmps26
      go_wp2_with (go_at_call 82; refine (within_any _ _ _ _).mono ?_; rintro e w' ⟨rfl, rfl⟩)
      go_ret
      exact ⟨by rw [E.out]; rfl, by repeat' (first | assumption | with_reducible exact Below.refl _ _ | with_reducible apply Below.drew | with_reducible apply below_drewN | with_reducible apply below_alloc | with_reducible refine below_set ?_ ?_ _ | (simp only [World.size_alloc, World.heap_drewN]; omega) | (simp; omega))⟩
  · have E := hide (show aliasErr all n1 n2 own rest = 7 by unfold aliasErr; rw [if_neg (by omega), if_pos (.inl g3)])
    have t6 : ((n2 : Int) != (n1 : Int)) = true := by simp; omega
    go_enter Try.func26, Try.ntmps26
    go_wp2
    go_ret
    exact ⟨by rw [E.out]; rfl, by repeat' (first | assumption | with_reducible exact Below.refl _ _ | with_reducible apply Below.drew | with_reducible apply below_drewN | with_reducible apply below_alloc | with_reducible refine below_set ?_ ?_ _ | (simp only [World.size_alloc, World.heap_drewN]; omega) | (simp; omega))⟩
end Go.Proofs.Ytgejpinepkockaa
