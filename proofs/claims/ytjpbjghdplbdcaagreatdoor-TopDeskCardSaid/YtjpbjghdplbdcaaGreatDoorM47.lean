/- Proves the parts of the claim that its last text joins: LibOf. Conditions: those that each theorem names. -/
import Derived.Test.YtjpbjghdplbdcaaGreatDoorRows
import Derived.Test.YtjpbjghdplbdcaaGreatDoorM03
import Derived.MakeChecks
import Derived.Lib.LaidTab
import Derived.Stop.LaidErr
section
namespace Go.Proofs.YtjpbjghdplbdcaaGreatDoor
open Go.RowKit Go.Shelf Go.Stop
theorem size_of_var {w : World} {s : String} {g : Nat} {cs : Array Value} (hg : Tryz.prog.globalNamed s = some g) (h : w.var? Tryz.prog s = some cs) : g < w.heap.size := by
  unfold World.var? at h
  rw [hg] at h
  by_cases hl : g < w.heap.size
  · exact hl
  · simp [Array.getElem?_eq_none (Nat.le_of_not_lt hl)] at h
theorem star_es : "*" ++ "errors.errorString" = "*errors.errorString" := by decide
theorem row_es (u : TypeId) (h : Tryz.prog.typeName? 3 u = some "*errors.errorString") : u = 344 :=
  typeName_ptr_named (nm := "errors.errorString") (by rw [star_es]; kernel_rfl) (by kernel_rfl) (by decide) u (by rw [star_es]; exact h)
theorem libW_of {W : World} (hL : laidMetH Tryz.prog Rows.topDeskRow.laid W) (hsh : W.ShapedOpen Tryz.prog) : LibW W.heap.size W := by
  rw [MakeChecks.laidMetH_plain _ _ _ (by kernel_rfl)] at hL
  have h1 : laidMet Tryz.prog _ W := hL.tail
  have hz : 9 < W.heap.size := by
    obtain ⟨ps, ⟨g', t', cs, fuel, p, q, hg', ht', hvar, hd, _, _⟩, _⟩ := h1
    exact size_of_var (show Tryz.prog.globalNamed "math/bits.deBruijn64tab" = some 9 by kernel_rfl) hvar
  have h2 : laidMet Tryz.prog _ W := h1.tail
  have h3 : laidMet Tryz.prog _ W := h2.tail
  have h4 : laidMet Tryz.prog _ W := h3.tail
  have h5 : laidMet Tryz.prog _ W := h4.tail
  refine ⟨?_, ?_, ?_, laysCutD.s1_3 W hsh, hz⟩
  · exact Lib.tabIs_of_head (k := .u64) (zs := Lib.pow10Tab) (t := 289) (e := 72) (n := 20) g_tab (by kernel_rfl) (by kernel_rfl) (by kernel_rfl) (by kernel_rfl) (by kernel_rfl) (show laidMet Tryz.prog (("internal/strconv.uint64pow10", Lib.tabData .u64 Lib.pow10Tab) :: _) W from h2)
  · obtain ⟨a, s, h, _⟩ := laid_sentinel h5 laysAtoi.m15 (by kernel_rfl) Tryz.underlying56 row_es Tryz.underlying344 Tryz.underlying346 rfl rfl Tryz.underlying9 (by kernel_rfl) (by kernel_rfl)
    exact ⟨_, _, h⟩
  · obtain ⟨a, s, h, _⟩ := laid_sentinel h4 laysAtoi.m16 (by kernel_rfl) Tryz.underlying56 row_es Tryz.underlying344 Tryz.underlying346 rfl rfl Tryz.underlying9 (by kernel_rfl) (by kernel_rfl)
    exact ⟨_, _, h⟩
end Go.Proofs.YtjpbjghdplbdcaaGreatDoor
end
