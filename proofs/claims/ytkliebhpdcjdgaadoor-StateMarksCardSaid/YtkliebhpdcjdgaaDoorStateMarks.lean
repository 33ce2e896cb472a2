/-
  cullender/cullaw.StateMarks: the statement 'StateMarksSaid'. Conditions: none beyond the form's own.
-/
import Derived.Test.YtkliebhpdcjdgaaDoorRows
import Derived.Test.YtkliebhpdcjdgaaDoorCards
import Derived.Test.YtkliebhpdcjdgaaDoorTie
import Derived.Test.YtkliebhpdcjdgaaDoorOpen
import Derived.Test.YtkliebhpdcjdgaaDoorOpen5
import Derived.Test.YtkliebhpdcjdgaaDoorLawMarks
import Derived.WalkKit
import Derived.ProofKit
import Derived.OpenShut
import Derived.LaidMore
import Derived.Lay
import Derived.SevenTiedAt
import Derived.Stop.Joined
namespace Go.Proofs.YtkliebhpdcjdgaaDoor.stateMarks
open Go.ChangeShapes Go.WideShapes Go.ChangeAt Go.RowKit
open Go.ChangeMaps (open_string shut_string)
open Go.Joins
set_option linter.unusedVariables false

theorem own : ownKnob Tryd.prog.godebug = none := by kernel_rfl
theorem laidOut : laidOutB Tryd.prog = true := by kernel_rfl

set_option maxRecDepth 100000 in
theorem lifted (os : Os) (started : os.Started) (H : Type) (enc : TypeId × Value → H) :
    ReturnsInHanded {} Tryd.checked os 6 .any (fun w args => (Rows.stateMarksSpec.pre enc Tryd.prog Tryd.f6 Rows.stateMarksRow.domain false w args ∧ laidMetH Tryd.prog Rows.stateMarksRow.laid w) ∧ sizedMet enc Tryd.prog Tryd.f6 (OpenSpec.ofChange Rows.stateMarksSpec) false w args)
      (Rows.stateMarksSpec.post enc Tryd.prog Tryd.f6 false true false false) := by
  refine returnsInHanded_of_change_and (C := Tryd.checked) (X := fun w _ => laidMetH Tryd.prog Rows.stateMarksRow.laid w) (fun _ _ _ hh h => h.of_heap hh) own started (by kernel_rfl) Tryd.func6
    (ChangeSpec.witness_shaped (enc := enc) (C := Tryd.checked) (os := os) (X := fun w _ => laidMetH Tryd.prog Rows.stateMarksRow.laid w) false (World.laidAll Tryd.prog os Rows.stateMarksRow.laid) #[.slice none 0 0, .agg #[.int .i64 0, .int .i64 0, .bool false, .bool false]] 8 (World.laidAll_os _ _ _)
      (World.shaped_of_ZipB (by kernel_rfl) (by kernel_rfl)) (by kernel_rfl) (by kernel_rfl) (by kernel_rfl)
      (by rw [MakeChecks.laidMetH_plain _ _ _ (by kernel_rfl)]; exact laidMet_laidAll _ (by kernel_rfl) (by kernel_rfl))) ?_
  intro W base args ds gs before hval0 hW hcnd hsz0 hL _
  have hval : ∀ (j : Nat) t v, Tryd.f6.params[j]? = some t → args[j]? = some v → Value.okWide Tryd.prog W .any base t v := hval0
  have hsz : (DataW.weightsEach Tryd.prog (Tryd.f6.params.toList ++ Rows.stateMarksSpec.plain.varTypes Tryd.prog) (ds ++ gs)).all (· ≤ reachBytes) = true := hsz0
  have hW' := hW
  obtain ⟨p, q, hA0, hV, rfl, hfz, hnd⟩ := hW
  have hA : DataW.TrodAll enc Tryd.prog W 0 (fun _ => true) true Tryd.f6.params.toList args.toList ds p := hA0
  rw [Tryd.params6] at hA hval hsz
  obtain ⟨v0, vs0, d0, ds0, p0, q0, hargs, rfl, rfl, h0, r0⟩ := trodAll_cons hA
  obtain ⟨v1, vs1, d1, ds1, p1, q1, rfl, rfl, rfl, h1, r1⟩ := trodAll_cons r0
  obtain ⟨rfl, rfl, rfl⟩ := trodAll_nil r1
  obtain rfl : args = #[v0, v1] := by cases args; simp_all
  obtain ⟨rfl, rfl⟩ := trodVars_none hV
  have k0 := h0
  have lt0 : ∀ x ∈ p0, x.block < W.heap.size := by obtain ⟨m, hm⟩ := k0; exact DataW.trod_lt m _ _ _ hm
  obtain ⟨A0, n0, c0, z0, rfl, s0, l0, f0⟩ := open_prs Tryd.underlying30 Tryd.underlying45 (by kernel_rfl) (by kernel_rfl) (by kernel_rfl) (by kernel_rfl) (by kernel_rfl) Tryd.underlying9 Tryd.underlying9 (hval 0 30 v0 rfl rfl) h0
  have g0 := prs_reach hsz l0 (j := 0) (t := 30) (e := 45) rfl rfl Tryd.underlying30 Tryd.underlying45
  have k1 := h1
  have lt1 : ∀ x ∈ p1, x.block < W.heap.size := by obtain ⟨m, hm⟩ := k1; exact DataW.trod_lt m _ _ _ hm
  obtain ⟨v1_0, v1_1, v1_2, v1_3, y1_0, y1_1, y1_2, y1_3, m1, rfl, e1, pp1, t1_0, t1_1, t1_2, t1_3⟩ := open_agg4 Tryd.underlying34 (by kernel_rfl) (by kernel_rfl) (hval 1 34 v1 rfl rfl) h1
  obtain ⟨x1_0, rfl, w1_0⟩ := open_int_at Tryd.underlying3 t1_0
  obtain ⟨x1_1, rfl, w1_1⟩ := open_int_at Tryd.underlying3 t1_1
  obtain ⟨x1_2, rfl⟩ := open_bool_at Tryd.underlying4 t1_2
  obtain ⟨x1_3, rfl⟩ := open_bool_at Tryd.underlying4 t1_3
  clear hA0 hval0 hsz0
  refine (law_marks A0 n0 c0 z0 x1_0 x1_1 x1_2 x1_3 W s0 g0).mono fun e W' ⟨he, bel⟩ => ?_
  subst he
  exact ⟨_, rfl, _, _, _, [], _, [], hW', trodAll_mk1 (shut_bool Tryd.underlying4 _), (trodAll_cons_mk (Below.trod laidOut (by kernel_rfl) (of_decide_eq_true (by kernel_rfl)) k0 bel lt0) (trodAll_cons_mk (Below.trod laidOut (by kernel_rfl) (of_decide_eq_true (by kernel_rfl)) k1 bel lt1) trodAll_mk0)), rfl, bel.frame _, fun h => by cases h⟩

theorem over : Rows.stateMarksRow.holds Tryd.pinned (OpenSpec.ofChange Rows.stateMarksSpec) :=
  OpenClaim.holds_of_wide 6 Tryd.f6 rfl rfl rfl rfl rfl rfl rfl ⟨rfl, rfl, rfl, rfl, rfl⟩ rfl rfl rfl rfl rfl (by kernel_rfl) Tryd.func6 (by kernel_rfl)
    (of_decide_eq_true (by kernel_rfl)) (by unfold Func.isWrapper; first | (rw [if_pos (by decide +kernel)]; kernel_rfl) | (rw [if_neg (by decide +kernel)]; exact ⟨rfl, rfl⟩))
    (fun os started H enc _ => lifted os started H enc)

theorem proved : Rows.StateMarksCardSaid :=
  Claim7.holds_tied_plain_at .later [] [.data, .pinned] true (true, "558e61dd3d98c30b1cb464ad7ace1255491e3805a016d1bf0a40480cb695e380") false over (fun _ h => by cases h) (by kernel_rfl) (fun _ h => by cases h) stateMarks_row_tie rfl ⟨rfl, rfl⟩ (by kernel_rfl) rfl
    (fun f fn hf hfn => by
      obtain rfl : f = 6 := Option.some.inj ((show Tryd.prog.funcNamed "cullender/cullaw.StateMarks" = some 6 by kernel_rfl).symm.trans hf) |>.symm
      obtain rfl : fn = Tryd.f6 := (Option.some.inj (Tryd.func6.symm.trans hfn)).symm
      exact ⟨by kernel_rfl, fun j t ht => by
        rw [Tryd.params6] at ht
        have hm : t ∈ [30, 34] := by simpa using Array.mem_of_getElem? ht
        have hall : ([30, 34].all fun u => !Tryd.prog.wantsStandIn u) = true := by kernel_rfl
        exact (show Tryd.prog.wantsStandIn t = false by simpa using List.all_eq_true.1 hall t hm)⟩)
    (by kernel_rfl)
#print axioms proved
end Go.Proofs.YtkliebhpdcjdgaaDoor.stateMarks
