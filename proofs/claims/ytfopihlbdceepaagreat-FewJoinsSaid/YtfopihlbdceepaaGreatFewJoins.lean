/-
  cullender/cullaw.FewJoins: the statement 'FewJoinsSaid'. Conditions: none beyond the form's own.
-/
import Derived.Test.YtfopihlbdceepaaGreatRows
import Derived.Test.YtfopihlbdceepaaGreatOpen
import Derived.Test.YtfopihlbdceepaaGreatOpen2
import Derived.Test.YtfopihlbdceepaaGreatLawJoin
import Derived.WalkKit
namespace Go.Proofs.YtfopihlbdceepaaGreat.fewJoins
open Go.ChangeShapes Go.WideShapes Go.ChangeAt Go.RowKit
open Go.ChangeMaps (open_string shut_string)
open Go.Joins
set_option linter.unusedVariables false

theorem own : ownKnob Tryz.prog.godebug = none := by kernel_rfl
theorem laidOut : laidOutB Tryz.prog = true := by kernel_rfl

set_option maxRecDepth 100000 in
theorem lifted (os : Os) (started : os.Started) (H : Type) (enc : TypeId × Value → H) :
    ReturnsInHanded {} Tryz.checked os 3 .any (Rows.fewJoinsSpec.pre6 enc Tryz.prog Tryz.f3 Rows.fewJoinsRow.domain false) (Rows.fewJoinsSpec.post enc Tryz.prog Tryz.f3 false true false false) := by
  refine returnsInHanded_of_change_sized (C := Tryz.checked) own started (by kernel_rfl) Tryz.func3
    (ChangeSpec.witness6 (enc := enc) (C := Tryz.checked) false ⟨#[], #[.agg #[.int .i64 0, .int .i64 0, .slice none 0 0], .agg #[.int .i64 0, .int .i64 0, .slice none 0 0], .slice none 0 0], []⟩ 8 (by kernel_rfl) (by kernel_rfl) (by kernel_rfl) (by kernel_rfl)) ?_
  intro W base args ds gs before hval0 hW hcnd hsz0 _
  have hval : ∀ (j : Nat) t v, Tryz.f3.params[j]? = some t → args[j]? = some v → Value.okWide Tryz.prog W .any base t v := hval0
  have hsz : (DataW.weightsEach Tryz.prog (Tryz.f3.params.toList ++ Rows.fewJoinsSpec.plain.varTypes Tryz.prog) (ds ++ gs)).all (· ≤ reachBytes) = true := hsz0
  have hW' := hW
  obtain ⟨p, q, hA0, hV, rfl, hfz, hnd⟩ := hW
  have hA : DataW.TrodAll enc Tryz.prog W 0 (fun _ => true) true Tryz.f3.params.toList args.toList ds p := hA0
  rw [Tryz.params3] at hA hval hsz
  obtain ⟨v0, vs0, d0, ds0, p0, q0, hargs, rfl, rfl, h0, r0⟩ := trodAll_cons hA
  obtain ⟨v1, vs1, d1, ds1, p1, q1, rfl, rfl, rfl, h1, r1⟩ := trodAll_cons r0
  obtain ⟨v2, vs2, d2, ds2, p2, q2, rfl, rfl, rfl, h2, r2⟩ := trodAll_cons r1
  obtain ⟨rfl, rfl, rfl⟩ := trodAll_nil r2
  obtain rfl : args = #[v0, v1, v2] := by cases args; simp_all
  obtain ⟨rfl, rfl⟩ := trodVars_none hV
  have k0 := h0
  have lt0 : ∀ x ∈ p0, x.block < W.heap.size := by obtain ⟨m, hm⟩ := k0; exact DataW.trod_lt m _ _ _ hm
  obtain ⟨v0_0, v0_1, v0_2, y0_0, y0_1, y0_2, m0, rfl, e0, pp0, t0_0, t0_1, t0_2⟩ := open_agg3 Tryz.underlying24 (by kernel_rfl) (by kernel_rfl) (hval 0 24 v0 rfl rfl) h0
  obtain ⟨x0_0, rfl, w0_0⟩ := open_int_at Tryz.underlying3 t0_0
  obtain ⟨x0_1, rfl, w0_1⟩ := open_int_at Tryz.underlying3 t0_1
  obtain ⟨A0_2, n0_2, c0_2, z0_2, rfl, s0_2, l0_2, f0_2⟩ := open_sp_at Tryz.underlying22 Tryz.underlying40 (by kernel_rfl) (by kernel_rfl) Tryz.underlying3 Tryz.underlying3 t0_2
  have k1 := h1
  have lt1 : ∀ x ∈ p1, x.block < W.heap.size := by obtain ⟨m, hm⟩ := k1; exact DataW.trod_lt m _ _ _ hm
  obtain ⟨v1_0, v1_1, v1_2, y1_0, y1_1, y1_2, m1, rfl, e1, pp1, t1_0, t1_1, t1_2⟩ := open_agg3 Tryz.underlying24 (by kernel_rfl) (by kernel_rfl) (hval 1 24 v1 rfl rfl) h1
  obtain ⟨x1_0, rfl, w1_0⟩ := open_int_at Tryz.underlying3 t1_0
  obtain ⟨x1_1, rfl, w1_1⟩ := open_int_at Tryz.underlying3 t1_1
  obtain ⟨A1_2, n1_2, c1_2, z1_2, rfl, s1_2, l1_2, f1_2⟩ := open_sp_at Tryz.underlying22 Tryz.underlying40 (by kernel_rfl) (by kernel_rfl) Tryz.underlying3 Tryz.underlying3 t1_2
  have k2 := h2
  have lt2 : ∀ x ∈ p2, x.block < W.heap.size := by obtain ⟨m, hm⟩ := k2; exact DataW.trod_lt m _ _ _ hm
  obtain ⟨A2, n2, c2, z2, rfl, s2, f2, l2⟩ := open_si Tryz.underlying25 Tryz.underlying3 (by kernel_rfl) (hval 2 25 v2 rfl rfl) h2
  clear hA0 hval0 hsz0
  refine (law_join x0_0 x0_1 A0_2 n0_2 c0_2 z0_2 x1_0 x1_1 A1_2 n1_2 c1_2 z1_2 A2 n2 c2 z2 W s0_2 f0_2 s1_2 f1_2 s2).mono fun e W' ⟨he, bel⟩ => ?_
  subst he
  exact ⟨_, rfl, _, _, _, [], _, [], hW', trodAll_mk1 (shut_bool Tryz.underlying4 _), (trodAll_cons_mk (Below.trod laidOut (by kernel_rfl) (of_decide_eq_true (by kernel_rfl)) k0 bel lt0) (trodAll_cons_mk (Below.trod laidOut (by kernel_rfl) (of_decide_eq_true (by kernel_rfl)) k1 bel lt1) (trodAll_cons_mk (Below.trod laidOut (by kernel_rfl) (of_decide_eq_true (by kernel_rfl)) k2 bel lt2) trodAll_mk0))), rfl, bel.frame _, fun h => by cases h⟩

theorem over : Rows.fewJoinsRow.holds Tryz.pinned (OpenSpec.ofChange Rows.fewJoinsSpec) :=
  OpenClaim.holds_of_wide 3 Tryz.f3 rfl rfl rfl rfl rfl rfl rfl ⟨rfl, rfl, rfl, rfl, rfl⟩ rfl rfl rfl rfl rfl (by kernel_rfl) Tryz.func3 (by kernel_rfl)
    (of_decide_eq_true (by kernel_rfl)) (by unfold Func.isWrapper; first | (rw [if_pos (by decide +kernel)]; kernel_rfl) | (rw [if_neg (by decide +kernel)]; exact ⟨rfl, rfl⟩))
    (fun os started H enc _ => lifted os started H enc)

theorem proved : Rows.FewJoinsSaid := over
#print axioms proved
end Go.Proofs.YtfopihlbdceepaaGreat.fewJoins
