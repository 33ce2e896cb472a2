/-
  cullender/cullaw.StateSays: the statement 'StateSaysUptoSaid'. Conditions: none beyond the form's own and its bound: the texts of all the pairs together.
-/
import Derived.Test.YtkliebhpdcjdgaaDoorRows
import Derived.Test.YtkliebhpdcjdgaaDoorCards
import Derived.Test.YtkliebhpdcjdgaaDoorTie
import Derived.Test.YtkliebhpdcjdgaaDoorOpen
import Derived.Test.YtkliebhpdcjdgaaDoorLawState
import Derived.WalkKit
import Derived.ProofKit
import Derived.OpenShut
import Derived.LaidMore
import Derived.Lay
import Derived.SevenTiedAt
import Derived.Stop.Joined
import Derived.Deep.DeepHandedRow
namespace Go.Proofs.YtkliebhpdcjdgaaDoor.stateSays
open Go.ChangeShapes Go.WideShapes Go.ChangeAt Go.RowKit
open Go.ChangeMaps (open_string shut_string)
open Go.Joins
set_option linter.unusedVariables false

theorem own : ownKnob Tryd.prog.godebug = none := by kernel_rfl
theorem laidOut : laidOutB Tryd.prog = true := by kernel_rfl

/-- WHAT THE BOUND GIVES: the whole text's length. -/
theorem one_le {H : Type} (d : DataW H) : 1 ≤ Rows.uptoBulk d := by
  cases d with
  | lit l => cases l <;> simp [Rows.uptoBulk]
  | nil => simp [Rows.uptoBulk]
  | ptr d => simp [Rows.uptoBulk]
  | slice elems spare => simp [Rows.uptoBulk]
  | agg parts => simp [Rows.uptoBulk]
  | iface t d => simp [Rows.uptoBulk]
  | map entries => simp [Rows.uptoBulk]
  | held h => simp [Rows.uptoBulk]
/-- What the pairs read as. -/
def prd {H : Type} (p : Pr) : DataW H := .agg [.lit (.string p.1.data.toList), .lit (.string p.2.data.toList)]
theorem prd_bulk {H : Type} (p : Pr) : Rows.uptoBulk (prd (H := H) p) = p.1.size + p.2.size + 3 := by
  simp only [prd, Rows.uptoBulk, Rows.uptoBulkAll, Array.length_toList]
  have e1 : p.1.data.size = p.1.size := rfl
  have e2 : p.2.data.size = p.2.size := rfl
  omega
theorem txTo_bulk {H : Type} : ∀ (ps : List Pr) (k : Nat), k ≤ ps.length → (txTo ps k).length ≤ Rows.uptoBulkAll ((ps.take k).map (prd (H := H)))
  | ps, 0, _ => Nat.zero_le _
  | ps, k + 1, h => by
    have ih := txTo_bulk (H := H) ps k (by omega)
    obtain ⟨p, hp⟩ : ∃ p, ps[k]? = some p := ⟨_, List.getElem?_eq_getElem (by omega)⟩
    rw [txTo_next hp, List.length_append, List.length_append, prText, List.length_append, List.length_cons, List.take_add_one, hp]
    have e1 : (bl p.1).length = p.1.size := by rw [bl]; exact Array.length_toList
    have e2 : (bl p.2).length = p.2.size := by rw [bl]; exact Array.length_toList
    have e3 : (if k = 0 then ([] : List UInt8) else [44]).length ≤ 1 := by split <;> simp
    have e4 : ∀ (l r : List (DataW H)), Rows.uptoBulkAll (l ++ r) = Rows.uptoBulkAll l + Rows.uptoBulkAll r := by
      intro l r
      induction l with
      | nil => simp [Rows.uptoBulkAll]
      | cons x l ih => simp only [List.cons_append, Rows.uptoBulkAll, ih]; omega
    rw [Option.toList_some, List.map_append, e4, List.map_singleton]
    simp only [Rows.uptoBulkAll, prd_bulk]
    omega
theorem text_bound {H : Type} {d d' : DataW H} {ps : List Pr} {n : Nat} (hl : PrD d ps) (hn : ps.length = n) (hk : Rows.uptoSmall H [d, d'] = true) : (txTo ps n).length ≤ 140737488351232 := by
  have hb : Rows.uptoBulkAll [d, d'] ≤ 1048576 := of_decide_eq_true hk
  simp only [Rows.uptoBulkAll] at hb
  rcases hl with rfl | ⟨sq, rfl⟩
  · subst hn; exact Nat.zero_le _
  · have h1 := txTo_bulk (H := H) ps n (by omega)
    have h2 : Rows.uptoBulk (DataW.slice (ps.map fun p => DataW.agg [.lit (.string p.1.data.toList), .lit (.string p.2.data.toList)]) sq : DataW H) = Rows.uptoBulkAll (ps.map (prd (H := H))) + Rows.uptoBulkAll sq + 1 := by
      rw [Rows.uptoBulk]; rfl
    rw [h2] at hb
    rw [List.take_of_length_le (by omega)] at h1
    omega

set_option maxRecDepth 100000 in
/-- WHAT THE WALK GIVES, FOR EVERY ARGUMENT. -/
theorem contract (H : Type) (enc : TypeId × Value → H) (W : World) (base : Nat) (args : Array Value) (ds gs : List (DataW H)) (before : List MemPlace)
    (hval : ∀ (j : Nat) t v, Tryd.f5.params[j]? = some t → args[j]? = some v → Value.okWide Tryd.prog W .any base t v)
    (hW : DataW.Whole enc Tryd.prog Tryd.f5.params.toList Rows.stateSaysSpec.vars false W args.toList ds gs before)
    (hk : Rows.uptoSmall H (ds ++ gs) = true)
    (hsz0 : (DataW.weightsEach Tryd.prog (Tryd.f5.params.toList ++ Rows.stateSaysSpec.plain.varTypes Tryd.prog) (ds ++ gs)).all (· ≤ reachBytes) = true)
    (hsh : W.ShapedOpen Tryd.prog) :
    Calls Tryd.prog 5 args W fun e W' => ∃ v, e = .returned v ∧ Rows.stateSaysSpec.post enc Tryd.prog Tryd.f5 false true false false W args v W' := by
  have hsz := hsz0
  have hW' := hW
  obtain ⟨p, q, hA0, hV, rfl, hfz, hnd⟩ := hW
  have hA : DataW.TrodAll enc Tryd.prog W 0 (fun _ => true) true Tryd.f5.params.toList args.toList ds p := hA0
  rw [Tryd.params5] at hA hval hsz
  obtain ⟨v0, vs0, d0, ds0, p0, q0, hargs, rfl, rfl, h0, r0⟩ := trodAll_cons hA
  obtain ⟨v1, vs1, d1, ds1, p1, q1, rfl, rfl, rfl, h1, r1⟩ := trodAll_cons r0
  obtain ⟨rfl, rfl, rfl⟩ := trodAll_nil r1
  obtain rfl : args = #[v0, v1] := by cases args; simp_all
  obtain ⟨rfl, rfl⟩ := trodVars_none hV
  have k0 := h0
  have lt0 : ∀ x ∈ p0, x.block < W.heap.size := by obtain ⟨m, hm⟩ := k0; exact DataW.trod_lt m _ _ _ hm
  obtain ⟨A0, n0, c0, z0, rfl, s0, l0, f0⟩ := open_prs Tryd.underlying30 Tryd.underlying45 (by kernel_rfl) (by kernel_rfl) (by kernel_rfl) (by kernel_rfl) (by kernel_rfl) Tryd.underlying9 Tryd.underlying9 (hval 0 30 v0 rfl rfl) h0
  have g0 := prs_reach hsz l0 (j := 0) (t := 30) (e := 45) rfl rfl Tryd.underlying30 Tryd.underlying45
  have k1 := h1
  have lt1 : ∀ x ∈ p1, x.block < W.heap.size := by obtain ⟨m, hm⟩ := k1; exact DataW.trod_lt m _ _ _ hm
  obtain ⟨s1, rfl, e1, rfl, w1⟩ := open_string Tryd.underlying9 (hval 1 9 v1 rfl rfl) h1
  have g1 : s1.size ≤ 140737488351232 := by subst e1; have := sized_string hsz (j := 1) (t := 9) rfl rfl; simpa [reachBytes] using this
  have b0 : (txTo z0 n0).length ≤ 140737488351232 := text_bound l0 s0.slen hk
  clear hA0 hsz0 hk
  refine (law_state A0 n0 c0 z0 s1 W s0 g0 g1 b0 (MaxSet.of hsh)).mono fun e W' ⟨he, bel⟩ => ?_
  subst he
  exact ⟨_, rfl, _, _, _, [], _, [], hW', trodAll_mk1 (shut_bool Tryd.underlying4 _), (trodAll_cons_mk (Below.trod laidOut (by kernel_rfl) (of_decide_eq_true (by kernel_rfl)) k0 bel lt0) (trodAll_cons_mk (Below.trod laidOut (by kernel_rfl) (of_decide_eq_true (by kernel_rfl)) k1 bel lt1) trodAll_mk0)), rfl, bel.frame _, fun h => by cases h⟩

/-- THE WITNESS: no pair, the empty text. -/
theorem reads (os : Os) {H : Type} (enc : TypeId × Value → H) : ∃ places, DataW.whole enc Tryd.prog ((World.laidAll Tryd.prog os Rows.stateSaysRow.laid).forCall (fun _ _ => 0) ⟨#[], #[.slice none 0 0, .string ⟨#[]⟩], []⟩).memory Tryd.f5.params.toList Rows.stateSaysSpec.vars false #[Value.slice none 0 0, Value.string ⟨#[]⟩].toList 8 = some ([.nil, .lit (.string [])], [], places) :=
  ⟨[], by kernel_rfl⟩
theorem laid_met (os : Os) : laidMetH Tryd.prog Rows.stateSaysRow.laid ((World.laidAll Tryd.prog os Rows.stateSaysRow.laid).forCall (fun _ _ => 0) ⟨#[], #[.slice none 0 0, .string ⟨#[]⟩], []⟩).memory := by
  rw [MakeChecks.laidMetH_plain _ _ _ (by kernel_rfl)]; exact laidMet_laidAll _ (by kernel_rfl) (by kernel_rfl)

set_option maxRecDepth 100000 in
theorem lifted (os : Os) (started : os.Started) (H : Type) (enc : TypeId × Value → H) (I : Stop.Interp) :
    ReturnsInHanded {} Tryd.checked os 5 .any ((Rows.OpenSpec.upto Rows.stateSaysSpec).preRow enc Tryd.prog Tryd.f5 Rows.stateSaysUptoRow.domain false Rows.stateSaysUptoRow.laid) (((Rows.OpenSpec.upto Rows.stateSaysSpec).at I).post enc Tryd.prog Tryd.f5 false true false false) := by
  obtain ⟨places, hx⟩ := reads os enc
  refine returnsInHanded_of_row (C := Tryd.checked) (s := Rows.OpenSpec.upto Rows.stateSaysSpec) own started (by kernel_rfl) Tryd.func5
    (witness_row_at (enc := enc) (C := Tryd.checked) false (World.laidAll Tryd.prog os Rows.stateSaysRow.laid) #[.slice none 0 0, .string ⟨#[]⟩] (World.laidAll_os _ _ _) (by kernel_rfl) (by kernel_rfl) (by kernel_rfl)
      (OpenSpec.preRow_of_cond 8 hx (by kernel_rfl) (fun k hk => by cases hk; kernel_rfl) (by kernel_rfl) (laid_met os))) ?_
  intro W base args ds gs before hval hW _ hcond hsz _ hsh _
  exact contract H enc W base args ds gs before hval hW (hcond _ rfl) hsz hsh

theorem over : Rows.StateSaysUptoSaid :=
  OpenClaim.holds_of_cond 5 Tryd.f5 rfl rfl rfl rfl rfl rfl rfl ⟨rfl, rfl, rfl, rfl, rfl⟩ rfl rfl rfl rfl rfl (by kernel_rfl) Tryd.func5 (by kernel_rfl)
    (of_decide_eq_true (by kernel_rfl)) (by unfold Func.isWrapper; first | (rw [if_pos (by decide +kernel)]; kernel_rfl) | (rw [if_neg (by decide +kernel)]; exact ⟨rfl, rfl⟩))
    (fun os started H enc _ I => by rw [OpenClaim.pre_eq_preRow]; exact lifted os started H enc I)

theorem proved : Rows.StateSaysUptoCardSaid :=
  Claim7.holds_tied_plain_at .later [] [.data, .pinned] true (true, "558e61dd3d98c30b1cb464ad7ace1255491e3805a016d1bf0a40480cb695e380") false over (fun _ h => by cases h) (by kernel_rfl) (fun _ h => by cases h) stateSaysUpto_row_tie rfl ⟨rfl, rfl⟩ (by kernel_rfl) rfl
    (fun f fn hf hfn => by
      obtain rfl : f = 5 := Option.some.inj ((show Tryd.prog.funcNamed "cullender/cullaw.StateSays" = some 5 by kernel_rfl).symm.trans hf) |>.symm
      obtain rfl : fn = Tryd.f5 := (Option.some.inj (Tryd.func5.symm.trans hfn)).symm
      exact ⟨by kernel_rfl, fun j t ht => by
        rw [Tryd.params5] at ht
        have hm : t ∈ [30, 9] := by simpa using Array.mem_of_getElem? ht
        have hall : ([30, 9].all fun u => !Tryd.prog.wantsStandIn u) = true := by kernel_rfl
        exact (show Tryd.prog.wantsStandIn t = false by simpa using List.all_eq_true.1 hall t hm)⟩)
    (by kernel_rfl)
#print axioms proved
end Go.Proofs.YtkliebhpdcjdgaaDoor.stateSays
