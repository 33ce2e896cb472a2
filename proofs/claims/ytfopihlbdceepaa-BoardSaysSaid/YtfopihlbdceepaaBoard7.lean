/-
  board.Put: the walk. Conditions: the slice reads as a list of rules; the texts' lengths.
-/
import Derived.Test.YtfopihlbdceepaaCloneR
import Derived.Test.YtfopihlbdceepaaBoardQ
import Derived.Deep.RegionHeld3
import Derived.Deep.Cut
import Derived.Laws.StructEq
import Derived.KernelRfl
namespace Go.Proofs.Ytfopihlbdceepaa
open Go.RowKit Go.Shelf

theorem RlOk.fit {l : List Rul} (h : RlOk l) : FitR l := fun r hr => by have := (h.small hr).1; omega
theorem hasR_some {key : ByteArray} {l : List Rul} (hu : UpR l) (h : hasR key l = true) : ∃ s, l[posR key l]? = some s ∧ s.1 = key := by
  unfold hasR at h
  rw [look_at key hu] at h
  cases hp : l[posR key l]? with
  | none => rw [hp] at h; cases h
  | some s =>
    rw [hp] at h
    dsimp only at h
    by_cases e : s.1 = key
    · exact ⟨s, rfl, e⟩
    · rw [if_neg e] at h; cases h
theorem hasR_none {key : ByteArray} {l : List Rul} (h : hasR key l = false) : look key l = none := by
  unfold hasR at h
  cases hl : look key l with
  | none => rfl
  | some s => rw [hl] at h; cases h
theorem rls_set : ∀ (xs : List Rl) (k : Nat) (v : Rl), k < xs.length → (((rls xs).set (k * 3) (.string v.1)).set (k * 3 + 1) (.int .i64 v.2.1)).set (k * 3 + 2) (.int .i64 v.2.2) = rls (xs.set k v)
  | [], _, _, h => absurd h (by simp)
  | x :: xs, 0, v, _ => rfl
  | x :: xs, k + 1, v, h => by
    have ih := rls_set xs k v (by simpa using h)
    rw [show (k + 1) * 3 = k * 3 + 3 by omega]
    show rlV x ++ (((rls xs).set (k * 3) _).set (k * 3 + 1) _).set (k * 3 + 2) _ = _
    rw [ih]
    rfl
theorem eqR_run (p q : ByteArray) (x y a b : Int) (w : World) : (Op.equalIn 10000 24 (.agg #[.string p, .int .i64 x, .int .i64 y]) (.agg #[.string q, .int .i64 a, .int .i64 b])).run Try.prog w = .ok ((p.toList == q.toList) && (x == a) && (y == b)) w := by
  have u0 := Try.underlying9
  have u1 := Try.underlying3
  have a0 := Try.isAgg9
  have a1 := Try.isAgg3
  have z0 := Try.sizeOf9
  have z1 := Try.sizeOf3
  have hS : Try.prog.underlying 24 = some (.struct (Try.prog.fieldsOf 24)) := by kernel_rfl
  rw [show (10000 : Nat) = 9999 + 1 from rfl, run_equalIn_agg w 9999 24 _ _ hS (by kernel_rfl)]
  simp only [Program.fieldsOf, Try.underlying24]
  go_simp
  by_cases h1 : p.toList = q.toList <;> by_cases h2 : x = a <;> by_cases h3 : y = b <;> simp [h1, h2, h3]
theorem keep6 {w1 W : World} {b g i : Nat} {v0 v1 v2 u0 u1 u2 : Value} (hb : b < w1.heap.size) (hg : g < w1.heap.size) (f0 : w1.cell? ⟨b, 0, none⟩ = some v0) (f1 : w1.cell? ⟨b, 1, none⟩ = some v1) (f2 : w1.cell? ⟨b, 2, none⟩ = some v2)
    (d0 : w1.cell? ⟨g, i, none⟩ = some u0) (d1 : w1.cell? ⟨g, i + 1, none⟩ = some u1) (d2 : w1.cell? ⟨g, i + 2, none⟩ = some u2) (h : Below w1.heap.size w1 W) :
    Below w1.heap.size w1 W ∧ W.cell? ⟨b, 0, none⟩ = some v0 ∧ W.cell? ⟨b, 1, none⟩ = some v1 ∧ W.cell? ⟨b, 2, none⟩ = some v2 ∧ W.cell? ⟨g, i, none⟩ = some u0 ∧ W.cell? ⟨g, i + 1, none⟩ = some u1 ∧ W.cell? ⟨g, i + 2, none⟩ = some u2 :=
  ⟨h, (h.cell (p := ⟨b, 0, none⟩) hb).trans f0, (h.cell (p := ⟨b, 1, none⟩) hb).trans f1, (h.cell (p := ⟨b, 2, none⟩) hb).trans f2, (h.cell (p := ⟨g, i, none⟩) hg).trans d0, (h.cell (p := ⟨g, i + 1, none⟩) hg).trans d1, (h.cell (p := ⟨g, i + 2, none⟩) hg).trans d2⟩
section
variable {A : Option Addr} {n c : Nat} {l : List Rul} {w : World}
set_option maxRecDepth 20000 in
set_option maxHeartbeats 3200000 in
theorem bput_bad (h : Sr w A n c l) (hf : FitR l) (p : ByteArray) (a b : Int) {E : Int} (hE : rlErr n l = E) (h0 : E ≠ 0) :
    Calls Try.prog 5 #[.slice A n c, .agg #[.string p, .int .i64 a, .int .i64 b]] w fun e w' => e = .returned (.tuple #[.slice none 0 0, .int .i64 E]) ∧ Below w.heap.size w w' := by
  have t1 : (E != 0) = true := by simpa using h0
  have hb0 : Below w.heap.size w (w.alloc (.cells #[.string p, .int .i64 a, .int .i64 b] 24)) := by repeat' (first | assumption | with_reducible exact Below.refl _ _ | with_reducible apply Below.drew | with_reducible apply below_drewN | with_reducible apply below_alloc | with_reducible refine below_set ?_ ?_ _ | (simp only [World.size_alloc, World.heap_drewN]; omega) | (simp; omega))
  have CC := hide (bcheck_any (h.on hb0) hf)
  rw [hE] at CC
  clear hE h hf
  go_enter Try.func5, Try.ntmps5
  go_wp2_with fail
  refine CC.out.mono ?_
  rintro e w1 ⟨rfl, b1⟩
  go_wp2_with fail
  go_ret2
  exact ⟨rfl, below_on hb0 b1⟩
set_option maxRecDepth 20000 in
set_option maxHeartbeats 3200000 in
theorem bput_arg (h : Sr w A n c l) (hok : RlOk l) (p : ByteArray) (a b : Int) (hp : p.size ≤ 9223372036854775807) {E : Int} (hE : oneErr (p, a, b) = E) (h0 : E ≠ 0) :
    Calls Try.prog 5 #[.slice A n c, .agg #[.string p, .int .i64 a, .int .i64 b]] w fun e w' => e = .returned (.tuple #[.slice none 0 0, .int .i64 E]) ∧ Below w.heap.size w w' := by
  have b0 := Blk.new w 24 #[.string p, .int .i64 a, .int .i64 b]
  have hb0 : Below w.heap.size w (w.alloc (.cells #[.string p, .int .i64 a, .int .i64 b] 24)) := by repeat' (first | assumption | with_reducible exact Below.refl _ _ | with_reducible apply Below.drew | with_reducible apply below_drewN | with_reducible apply below_alloc | with_reducible refine below_set ?_ ?_ _ | (simp only [World.size_alloc, World.heap_drewN]; omega) | (simp; omega))
  have CC := hide (bcheck_any (h.on hb0) hok.fit)
  rw [rlErr_of h.rlen hok] at CC
  have CO := hide (fun w => one_any p a b w hp)
  rw [hE] at CO
  have t1 : (E != 0) = true := by simpa using h0
  clear hE h0 hok h
  go_enter Try.func5, Try.ntmps5
  go_wp2_with fail
  refine CC.out.mono ?_
  rintro e w1 ⟨rfl, bel1⟩
  have b1 := b0.below bel1 b0.lt
  have k1 := below_on hb0 bel1
  have c0 := b1.at_ (i := 0) (u := .string p) rfl
  have c1 := b1.at_ (i := 1) (u := .int .i64 a) rfl
  have c2 := b1.at_ (i := 2) (u := .int .i64 b) rfl
  clear b0 hb0 bel1
  go_wp2_with fail
  refine (CO.out _).mono ?_
  rintro e w2 ⟨rfl, bel2⟩
  go_wp2_with fail
  go_ret2
  exact ⟨rfl, below_on k1 bel2⟩
end
end Go.Proofs.Ytfopihlbdceepaa
