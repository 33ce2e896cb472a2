/-
  alias.Pick and alias.Shares: the walks. Conditions: the two slices read as lists of numbers.
-/
import Derived.Test.YtgejpinepkockaaAlias2
namespace Go.Proofs.Ytgejpinepkockaa
open Go.RowKit

theorem aliasCheck_is {all : Int} {n1 n2 : Nat} {own rest : List Int} {E : Int} {A1 A2 : Option Addr} {c1 c2 : Nat} {w : World} (h1 : Si w A1 n1 c1 own) (h2 : Si w A2 n2 c2 rest) (h : aliasErr all n1 n2 own rest = E) :
    Calls Try.prog 27 #[.agg #[.int .i64 all, .slice A1 n1 c1, .slice A2 n2 c2]] w fun e w' => e = .returned (.int .i64 E) ∧ Below w.heap.size w w' := by
  have k := aliasCheck_any all A1 A2 n1 c1 n2 c2 own rest w h1 h2; rw [h] at k; exact k
theorem table_is {all : Int} {n1 n2 : Nat} {own rest : List Int} {E : Int} {A1 A2 : Option Addr} {c1 c2 : Nat} {w : World} (h1 : Si w A1 n1 c1 own) (h2 : Si w A2 n2 c2 rest) (h : aliasErr all n1 n2 own rest = E) :
    Calls Try.prog 26 #[.agg #[.int .i64 all, .slice A1 n1 c1, .slice A2 n2 c2]] w fun e w' => e = .returned (.int .i64 E) ∧ Below w.heap.size w w' := by
  have k := table_any all A1 A2 n1 c1 n2 c2 own rest w h1 h2; rw [h] at k; exact k

section
variable {all : Int} {A1 A2 : Option Addr} {n1 c1 n2 c2 : Nat} {own rest : List Int} {w : World} {E : Int} {col part : Int}
set_option maxHeartbeats 800000 in
theorem pick_bad (h1 : Si w A1 n1 c1 own) (h2 : Si w A2 n2 c2 rest) (h : aliasErr all n1 n2 own rest = E) (h0 : ¬ E = 0) :
    Calls Try.prog 24 #[.agg #[.int .i64 all, .slice A1 n1 c1, .slice A2 n2 c2], .int .i64 col, .int .i64 part] w fun e w' => e = .returned (.tuple #[.int .i64 0, .int .i64 E]) ∧ Below w.heap.size w w' := by
  have t1 : (E != 0) = true := by simpa using h0
  have H := hide h
  clear h h0
  go_enter Try.func24, Try.ntmps24
  go_wp2_with fail
  refine (aliasCheck_is (h1.on (by repeat' (first | assumption | with_reducible exact Below.refl _ _ | with_reducible apply Below.drew | with_reducible apply below_drewN | with_reducible apply below_alloc | with_reducible refine below_set ?_ ?_ _ | (simp only [World.size_alloc, World.heap_drewN]; omega) | (simp; omega)))) (h2.on (by repeat' (first | assumption | with_reducible exact Below.refl _ _ | with_reducible apply Below.drew | with_reducible apply below_drewN | with_reducible apply below_alloc | with_reducible refine below_set ?_ ?_ _ | (simp only [World.size_alloc, World.heap_drewN]; omega) | (simp; omega)))) H.out).mono ?_
  rintro e w1 ⟨rfl, hb1⟩
  have hw1 : Below w.heap.size w w1 := below_on (by repeat' (first | assumption | with_reducible exact Below.refl _ _ | with_reducible apply Below.drew | with_reducible apply below_drewN | with_reducible apply below_alloc | with_reducible refine below_set ?_ ?_ _ | (simp only [World.size_alloc, World.heap_drewN]; omega) | (simp; omega))) hb1
  go_wp2_with fail
  go_ret2
  exact ⟨rfl, hw1⟩

set_option maxHeartbeats 800000 in
theorem pick_arg (h1 : Si w A1 n1 c1 own) (h2 : Si w A2 n2 c2 rest) (h : aliasErr all n1 n2 own rest = 0) (hb : ¬ (0 ≤ col ∧ col < n1 ∧ 0 ≤ part ∧ part < all)) :
    Calls Try.prog 24 #[.agg #[.int .i64 all, .slice A1 n1 c1, .slice A2 n2 c2], .int .i64 col, .int .i64 part] w fun e w' => e = .returned (.tuple #[.int .i64 0, .int .i64 1]) ∧ Below w.heap.size w w' := by
  have pb0 := Blk.new w 40 #[.int .i64 all, .slice A1 n1 c1, .slice A2 n2 c2]
  have H := hide h
  clear h
  have key : (col < 0) ∨ (¬ col < 0 ∧ (n1 : Int) ≤ col) ∨ (¬ col < 0 ∧ col < (n1 : Int) ∧ part < 0) ∨ (¬ col < 0 ∧ col < (n1 : Int) ∧ ¬ part < 0 ∧ all ≤ part) := by omega
  clear hb
  rcases key with k1 | ⟨k1, k2⟩ | ⟨k1, k2, k3⟩ | ⟨k1, k2, k3, k4⟩
  all_goals
    go_enter Try.func24, Try.ntmps24
    go_wp2_with fail
    refine (aliasCheck_is (h1.on (by repeat' (first | assumption | with_reducible exact Below.refl _ _ | with_reducible apply Below.drew | with_reducible apply below_drewN | with_reducible apply below_alloc | with_reducible refine below_set ?_ ?_ _ | (simp only [World.size_alloc, World.heap_drewN]; omega) | (simp; omega)))) (h2.on (by repeat' (first | assumption | with_reducible exact Below.refl _ _ | with_reducible apply Below.drew | with_reducible apply below_drewN | with_reducible apply below_alloc | with_reducible refine below_set ?_ ?_ _ | (simp only [World.size_alloc, World.heap_drewN]; omega) | (simp; omega)))) H.out).mono ?_
    rintro e w1 ⟨rfl, hb1⟩
    have hw1 : Below w.heap.size w w1 := below_on (by repeat' (first | assumption | with_reducible exact Below.refl _ _ | with_reducible apply Below.drew | with_reducible apply below_drewN | with_reducible apply below_alloc | with_reducible refine below_set ?_ ?_ _ | (simp only [World.size_alloc, World.heap_drewN]; omega) | (simp; omega))) hb1
    have pb := pb0.below hb1 pb0.lt
    have p0 := pb.at_ (i := 0) rfl
    have p1 := pb.at_ (i := 1) rfl
    go_wp2_with fail
    go_ret2
    exact ⟨rfl, hw1⟩

set_option maxHeartbeats 800000 in
theorem pick_ok (h1 : Si w A1 n1 c1 own) (h2 : Si w A2 n2 c2 rest) (h : aliasErr all n1 n2 own rest = 0) (k : Nat) (hk : k < n1) (hp : 0 ≤ part) (hpa : part < all) {x y : Int} (hx : own[k]? = some x) (hy : rest[k]? = some y) :
    Calls Try.prog 24 #[.agg #[.int .i64 all, .slice A1 n1 c1, .slice A2 n2 c2], .int .i64 k, .int .i64 part] w fun e w' => e = .returned (.tuple #[.int .i64 (if part < x then (k : Int) else y), .int .i64 0]) ∧ Below w.heap.size w w' := by
  have pb0 := Blk.new w 40 #[.int .i64 all, .slice A1 n1 c1, .slice A2 n2 c2]
  have hn := (aliasErr_zero h).2.1.symm
  have hm := h1.len_max
  subst hn
  have HX := hide hx
  have HY := hide hy
  have H := hide h
  have b1 : ((k : Int) < 0) = False := by simp
  have b2 : (k : Int) < (n1 : Int) := by omega
  have b3 : (0 : Int) ≤ (k : Int) := by omega
  clear h hx hy
  by_cases hlt : part < x
  all_goals
    go_enter Try.func24, Try.ntmps24
    go_wp2_with fail
    refine (aliasCheck_is (h1.on (by repeat' (first | assumption | with_reducible exact Below.refl _ _ | with_reducible apply Below.drew | with_reducible apply below_drewN | with_reducible apply below_alloc | with_reducible refine below_set ?_ ?_ _ | (simp only [World.size_alloc, World.heap_drewN]; omega) | (simp; omega)))) (h2.on (by repeat' (first | assumption | with_reducible exact Below.refl _ _ | with_reducible apply Below.drew | with_reducible apply below_drewN | with_reducible apply below_alloc | with_reducible refine below_set ?_ ?_ _ | (simp only [World.size_alloc, World.heap_drewN]; omega) | (simp; omega)))) H.out).mono ?_
    rintro e w1 ⟨rfl, hb1⟩
    have hw1 : Below w.heap.size w w1 := below_on (by repeat' (first | assumption | with_reducible exact Below.refl _ _ | with_reducible apply Below.drew | with_reducible apply below_drewN | with_reducible apply below_alloc | with_reducible refine below_set ?_ ?_ _ | (simp only [World.size_alloc, World.heap_drewN]; omega) | (simp; omega))) hb1
    have pb := pb0.below hb1 pb0.lt
    have p0 := pb.at_ (i := 0) rfl
    have p1 := pb.at_ (i := 1) rfl
    have p2 := pb.at_ (i := 2) rfl
    obtain ⟨ad, eA, _, hcx⟩ := (h1.on hw1).cell (ints_at HX.out)
    obtain ⟨ae, eB, _, hcy⟩ := (h2.on hw1).cell (ints_at HY.out)
    subst eA
    subst eB
    go_wp2_with fail
    go_ret2
    exact ⟨rfl, hw1⟩
end
end Go.Proofs.Ytgejpinepkockaa
