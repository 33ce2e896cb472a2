/-
  sort.Reverse(sort.IntSlice(..)): how its methods are reached, and what they do. Conditions: the block that holds the reversed slice; the row.
-/
import Derived.Test.YtfopihlbdceepaaGreatProg
import Derived.Test.YtfopihlbdceepaaGreatGen
import Derived.Test.YtfopihlbdceepaaGreatApp
import Derived.Test.YtfopihlbdceepaaGreatPlain
import Derived.KernelRfl
import Derived.WalkKit
import Derived.WalkSpells
import Derived.Deep.QuietTactic
import Derived.BigQuiet
import Derived.Laws.Cover1
namespace Go.Proofs.YtfopihlbdceepaaGreat
open Go.RowKit

section
variable {W : World} {b : Nat} {V : Value}
theorem m_of {t : TypeId} {name : String} {p : List FieldStep} {f : Option (FuncId × Bool)} (h : ((Tryz.prog.info? t).bind fun i => i.methods.find? (·.name == name)).map (fun m => (m.path.toList, m.func)) = some (p, f)) :
    ∃ i m, (∀ W : World, (typeInfo t).run Tryz.prog W = .ok i W) ∧ i.methods.find? (·.name == name) = some m ∧ m.path.toList = p ∧ m.func = f := by
  cases hi : Tryz.prog.info? t with
  | none => rw [hi] at h; cases h
  | some i =>
    rw [hi] at h
    cases hm : i.methods.find? (·.name == name) with
    | none => simp [hm] at h
    | some m =>
      simp [hm] at h
      refine ⟨i, m, fun W => ?_, hm, h.1, h.2⟩
      simp [typeInfo, hi]
theorem entersF {f : FuncId} {fn : Func} {c : Code} (hf : Tryz.prog.funcs[f]? = some fn) (hname : (fn.name == "runtime.NumGoroutine") = false) (hb : fn.body = some c) (args : Array Value) (W : World) :
    (callFunc f args).run Tryz.prog W = .ok (.enter f args) W := by
  have h1 : fn.name ≠ "runtime.NumGoroutine" := by simpa using hname
  simp [callFunc, hf, h1, hb, mark]
theorem m_len (h : W.cell? ⟨b, 0, none⟩ = some (.iface 55 V)) : (method (Tryz.prog.types.size + 100) 76 (.pointer (some ⟨b, 0, none⟩)) "Len").run Tryz.prog W = .ok (112, V) W := by
  obtain ⟨i, m, h1, h2, h3, h4⟩ := m_of (t := 76) (name := "Len") (p := [⟨78, 0, true⟩]) (f := none) (by kernel_rfl)
  obtain ⟨i2, m2, g1, g2, g3, g4⟩ := m_of (t := 55) (name := "Len") (p := []) (f := some (112, false)) (by kernel_rfl)
  have e2 : (method (Tryz.prog.types.size + 99) 55 V "Len").run Tryz.prog W = .ok (112, V) W := by
    rw [show Tryz.prog.types.size + 99 = Tryz.prog.types.size + 98 + 1 from rfl, method]
    simp only [Sem.run_bind, g1, Result.andThen_ok, g2, g3, g4, follow, Sem.run_pure, receiverAt, run_underlying Tryz.underlying55, Place.get]
  rw [show Tryz.prog.types.size + 100 = Tryz.prog.types.size + 99 + 1 from rfl, method]
  simp only [Sem.run_bind, h1, Result.andThen_ok, h2, h3, h4, follow, Sem.run_pure, run_underlying Tryz.underlying78, Place.get]
  generalize Tryz.prog.types.size + 99 = N at e2 ⊢
  simp [asAddr, fieldPlace, go_sem, h, e2]
theorem m_swap (h : W.cell? ⟨b, 0, none⟩ = some (.iface 55 V)) : (method (Tryz.prog.types.size + 100) 76 (.pointer (some ⟨b, 0, none⟩)) "Swap").run Tryz.prog W = .ok (115, V) W := by
  obtain ⟨i, m, h1, h2, h3, h4⟩ := m_of (t := 76) (name := "Swap") (p := [⟨78, 0, true⟩]) (f := none) (by kernel_rfl)
  obtain ⟨i2, m2, g1, g2, g3, g4⟩ := m_of (t := 55) (name := "Swap") (p := []) (f := some (115, false)) (by kernel_rfl)
  have e2 : (method (Tryz.prog.types.size + 99) 55 V "Swap").run Tryz.prog W = .ok (115, V) W := by
    rw [show Tryz.prog.types.size + 99 = Tryz.prog.types.size + 98 + 1 from rfl, method]
    simp only [Sem.run_bind, g1, Result.andThen_ok, g2, g3, g4, follow, Sem.run_pure, receiverAt, run_underlying Tryz.underlying55, Place.get]
  rw [show Tryz.prog.types.size + 100 = Tryz.prog.types.size + 99 + 1 from rfl, method]
  simp only [Sem.run_bind, h1, Result.andThen_ok, h2, h3, h4, follow, Sem.run_pure, run_underlying Tryz.underlying78, Place.get]
  generalize Tryz.prog.types.size + 99 = N at e2 ⊢
  simp [asAddr, fieldPlace, go_sem, h, e2]
theorem m_less (h : W.cell? ⟨b, 0, none⟩ = some (.iface 55 V)) : (method (Tryz.prog.types.size + 100) 76 (.pointer (some ⟨b, 0, none⟩)) "Less").run Tryz.prog W = .ok (117, .agg #[.iface 55 V]) W := by
  obtain ⟨i, m, h1, h2, h3, h4⟩ := m_of (t := 76) (name := "Less") (p := []) (f := some (117, false)) (by kernel_rfl)
  rw [show Tryz.prog.types.size + 100 = Tryz.prog.types.size + 99 + 1 from rfl, method]
  simp only [Sem.run_bind, h1, Result.andThen_ok, h2, h3, h4, follow, Sem.run_pure, receiverAt, run_underlying Tryz.underlying76, Place.get]
  have e : ∀ s m, (Builtin.ssaWrapNilChk_ #[76] 76 #[.pointer (some ⟨b, 0, none⟩), strVal s, strVal m]).run Tryz.prog W = .ok (.pointer (some ⟨b, 0, none⟩)) W := fun s m => rfl
  have h5 : m.path = #[] := by simpa using h3
  generalize ("Less".splitOn ".").getLastD "Less" = nm
  simp only [h5, show (#[] : Array FieldStep).isEmpty = true from rfl, if_true, Sem.run_bind, e, Result.andThen_ok]
  simp [asAddr, go_sem, h]
theorem m_less2 : (method (Tryz.prog.types.size + 100) 55 V "Less").run Tryz.prog W = .ok (113, V) W := by
  obtain ⟨i2, m2, g1, g2, g3, g4⟩ := m_of (t := 55) (name := "Less") (p := []) (f := some (113, false)) (by kernel_rfl)
  rw [show Tryz.prog.types.size + 100 = Tryz.prog.types.size + 99 + 1 from rfl, method]
  simp only [Sem.run_bind, g1, Result.andThen_ok, g2, g3, g4, follow, Sem.run_pure, receiverAt, run_underlying Tryz.underlying55, Place.get]
/-- The look-up's fuel, as the walk reckons it: the seat's number of types and a hundred. -/
theorem fuel_is : Tryz.prog.types.size + 100 = 243 := by kernel_rfl
theorem n_len (h : W.cell? ⟨b, 0, none⟩ = some (.iface 55 V)) : (method 243 76 (.pointer (some ⟨b, 0, none⟩)) "Len").run Tryz.prog W = .ok (112, V) W := by rw [← fuel_is]; exact m_len h
theorem n_swap (h : W.cell? ⟨b, 0, none⟩ = some (.iface 55 V)) : (method 243 76 (.pointer (some ⟨b, 0, none⟩)) "Swap").run Tryz.prog W = .ok (115, V) W := by rw [← fuel_is]; exact m_swap h
theorem n_less (h : W.cell? ⟨b, 0, none⟩ = some (.iface 55 V)) : (method 243 76 (.pointer (some ⟨b, 0, none⟩)) "Less").run Tryz.prog W = .ok (117, .agg #[.iface 55 V]) W := by rw [← fuel_is]; exact m_less h
end
/-- The reversed row: block b holds it; the row at g reads zs. -/
structure RS (W : World) (b g N c base : Nat) (zs : List Int) : Prop where
  box : Blk W b 78 #[.iface 55 (.slice (some ⟨g, 0, none⟩) N c)]
  own : Own W base 3 1 (some ⟨g, 0, none⟩) N c (ints zs)
abbrev RV (b : Nat) : Value := .pointer (some ⟨b, 0, none⟩)
section
variable {W W' : World} {b g N c base : Nat} {zs : List Int}
theorem RS.cell (h : RS W b g N c base zs) : W.cell? ⟨b, 0, none⟩ = some (.iface 55 (.slice (some ⟨g, 0, none⟩) N c)) := h.box.at_ rfl
theorem RS.len (h : RS W b g N c base zs) : zs.length = N := h.own.sl.ilen
theorem RS.drewN (h : RS W b g N c base zs) (q : Nat) : RS (W.drewN q) b g N c base zs := ⟨h.box, h.own⟩
theorem RS.below (h : RS W b g N c base zs) (hb : Below W.heap.size W W') : RS W' b g N c base zs := ⟨h.box.below hb h.box.lt, h.own.below hb (Nat.le_refl _)⟩
theorem RS.ne (h : RS W b g N c base zs) (hN : 0 < N) : b ≠ g := by
  intro e
  subst e
  obtain ⟨g', e1, _, _⟩ := h.own.addr hN
  rcases h.own.2 with ⟨hv, _⟩ | ⟨g2, cap, cur, hv, _, hh, _⟩
  · cases hv
  · injection hv with h1
    injection h1 with h1
    injection h1 with h1
    subst h1
    have hb := h.box
    unfold Blk at hb
    rw [hh] at hb
    injection hb with hb
    injection hb with _ he
    exact absurd he (by decide)
set_option maxHeartbeats 800000 in
theorem isl_len (A : Option Addr) : Calls Tryz.prog 112 #[.slice A N c] W fun e w' => e = .returned (.int .i64 N) ∧ w' = W := by
  go_enter Tryz.func112, Tryz.ntmps112
  go_wp2_with fail
  go_ret
  exact ⟨rfl, rfl⟩
set_option maxHeartbeats 1600000 in
theorem isl_less (h : RS W b g N c base zs) {i j : Nat} {x y : Int} (hi : zs[i]? = some x) (hj : zs[j]? = some y) (hN : N ≤ 1000) : Calls Tryz.prog 113 #[.slice (some ⟨g, 0, none⟩) N c, .int .i64 i, .int .i64 j] W fun e w' => e = .returned (.bool (decide (x < y))) ∧ ∃ q, w' = W.drewN q := by
  have ci := h.own.cell (ints_at hi)
  have cj := h.own.cell (ints_at hj)
  have li : i < N := by rw [← h.len]; exact (List.getElem?_eq_some_iff.1 hi).1
  have lj : j < N := by rw [← h.len]; exact (List.getElem?_eq_some_iff.1 hj).1
  clear hi hj
  go_enter Tryz.func113, Tryz.ntmps113
  go_wp2
  go_quiet (fail)
  go_wp2
  go_ret
  exact ⟨rfl, nq, rfl⟩
set_option maxRecDepth 100000 in
set_option maxHeartbeats 1600000 in
/-- Less: the other way round. -/
theorem rev_less (h : RS W b g N c base zs) {i j : Nat} {x y : Int} (hi : zs[i]? = some x) (hj : zs[j]? = some y) (hN : N ≤ 1000) : Calls Tryz.prog 117 #[.agg #[.iface 55 (.slice (some ⟨g, 0, none⟩) N c)], .int .i64 i, .int .i64 j] W fun e w' => e = .returned (.bool (decide (y < x))) ∧ Below W.heap.size W w' := by
  have hb0 : Below W.heap.size W (W.alloc (.cells #[.iface 55 (.slice (some ⟨g, 0, none⟩) N c)] 78)) := by repeat' (first | assumption | with_reducible exact Below.refl _ _ | with_reducible apply Below.drew | with_reducible apply below_drewN | with_reducible apply below_alloc | with_reducible refine below_set ?_ ?_ _ | (simp only [World.size_alloc, World.heap_drewN]; omega) | (simp; omega))
  have k := isl_less (h.below hb0) hj hi hN
  have m2 := fun W => m_less2 (W := W) (V := .slice (some ⟨g, 0, none⟩) N c)
  have e2 := entersF Tryz.func113 (by kernel_rfl) rfl
  clear hi hj
  go_enter Tryz.func117, Tryz.ntmps117
  go_wp2_with fail
  refine k.mono ?_
  rintro e w1 ⟨rfl, q, rfl⟩
  go_wp2_with fail
  go_ret
  exact ⟨rfl, by repeat' (first | assumption | with_reducible exact Below.refl _ _ | with_reducible apply Below.drew | with_reducible apply below_drewN | with_reducible apply below_alloc | with_reducible refine below_set ?_ ?_ _ | (simp only [World.size_alloc, World.heap_drewN]; omega) | (simp; omega))⟩
end
end Go.Proofs.YtfopihlbdceepaaGreat
