/- Proves the parts of the claim that its last text joins: FewL. Conditions: those that each theorem names. -/
import Derived.Test.YtjpbjghdplbdcaaGreatDoorM13
import Derived.Shelf.SlSortFuncK.WholeK
import Derived.Shelf.GgSortFunc.Tiny
import Derived.Test.YtjpbjghdplbdcaaGreatDoorM27
import Derived.Sort.LotC
import Derived.Sort.LotA
import Derived.Deep.DeepCutAuto
import Derived.Deep.CutBlock
import Derived.BigRegion
import Derived.Outline
import Derived.Deep.Cut
import Derived.Sort.LotB
import Derived.Shelf.Small.Bits
import Derived.Ground.NamesProg
import Derived.Test.YtjpbjghdplbdcaaGreatDoorM22
import Derived.Deep.RegionHeld
import Derived.Test.YtjpbjghdplbdcaaGreatDoorM10
import Derived.Test.YtjpbjghdplbdcaaGreatDoorM01
import Derived.Test.YtjpbjghdplbdcaaGreatDoorM29
section
namespace Go.Proofs.YtjpbjghdplbdcaaGreatDoor
def Putted (K L : Int) (key v : Int) (l : List Ct) (y : Int × Int × Int × List Ct) : Prop :=
  if ((addC key v l).length : Int) ≤ K then finC K L (addC key v l) = y else ∃ d, LeastC (addC key v l) (addC key v l).length d ∧ finC K (L + d.2) (lessC d.2 (addC key v l)) = y
section
open Go.RowKit
variable {A : Option Addr} {n c : Nat} {l : List Ct} {w : World} {K L key v : Int}
theorem fput_own (h : Sp w A n c l) (hok : FwOk K L n l) (h0 : fwErr K L n l = 0) (hv1 : 1 ≤ v) (hv2 : v ≤ 1000000000000) :
    Calls Tryz.prog 193 #[.agg #[.int .i64 K, .int .i64 L, .slice A n c], .int .i64 key, .int .i64 v] w fun e w' => ∃ E K' L' A' n' c' l', e = .returned (.tuple #[.agg #[.int .i64 K', .int .i64 L', .slice A' n' c'], .int .i64 E]) ∧ Own w' w.heap.size 128 2 A' n' c' (prs l') ∧ Putted K L key v l (E, K', L', l') ∧ Below w.heap.size w w' := by
  by_cases hc : ((addC key v l).length : Int) ≤ K
  · refine (fput_small h hok h0 hv1 hv2 hc).mono ?_
    rintro e w' ⟨E, K', L', A', n', c', l', rfl, hs, hf, hb⟩
    exact ⟨E, K', L', A', n', c', l', rfl, hs, by unfold Putted; rw [if_pos hc]; exact hf, hb⟩
  · refine (fput_big h hok h0 hv1 hv2 (by omega)).mono ?_
    rintro e w' ⟨E, K', L', A', n', c', l', rfl, hs, hf, hb⟩
    exact ⟨E, K', L', A', n', c', l', rfl, hs, by unfold Putted; rw [if_neg hc]; exact hf, hb⟩
end
end Go.Proofs.YtjpbjghdplbdcaaGreatDoor
end
