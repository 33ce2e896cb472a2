/-
  slices.Sort at numbers, of a row of the call's own. Condition: few numbers.
-/
import Derived.Test.YtfopihlbdceepaaGreatFewer
import Derived.Sort.OwnSortedInts
import Derived.Shelf.Sort.Plain
import Derived.Shelf.Slices.In.SortNone
import Derived.Ground.NamesProg
namespace Go.Proofs.YtfopihlbdceepaaGreat
open Go.RowKit Go.Shelf Go.Maps Go.Sort

def laysSlSort_ren : Go.Shelf.Ren := ⟨fun | 189 => 15 | 125 => 30 | 257 => 29 | 128 => 50 | 129 => 51 | 294 => 41 | 295 => 42 | 296 => 43 | 297 => 44 | 298 => 45 | 299 => 46 | 216 => 47 | 300 => 48 | 301 => 49 | 328 => 78 | 329 => 79 | 330 => 80 | 331 => 81 | 332 => 82 | 215 => 83 | 343 => 93 | n => n, fun | 28 => 25 | 3 => 3 | 46 => 63 | 0 => 0 | 51 => 91 | 53 => 93 | 4 => 4 | 183 => 85 | 182 => 84 | 131 => 31 | 5 => 5 | 9 => 9 | 218 => 109 | 222 => 113 | 228 => 121 | 229 => 122 | n => n, fun | n => n⟩
theorem laysSlSort : Go.Proofs.Lays.n189 Tryz.prog laysSlSort_ren := {
  mixed := by kernel_rfl
  f125 := Tryz.func30.trans (congrArg some (by kernel_rfl))
  f128 := Tryz.func50.trans (congrArg some (by kernel_rfl))
  f129 := Tryz.func51.trans (congrArg some (by kernel_rfl))
  f189 := Tryz.func15.trans (congrArg some (by kernel_rfl))
  f215 := Tryz.func83.trans (congrArg some (by kernel_rfl))
  f216 := Tryz.func47.trans (congrArg some (by kernel_rfl))
  f257 := Tryz.func29.trans (congrArg some (by kernel_rfl))
  f294 := Tryz.func41.trans (congrArg some (by kernel_rfl))
  f295 := Tryz.func42.trans (congrArg some (by kernel_rfl))
  f296 := Tryz.func43.trans (congrArg some (by kernel_rfl))
  f297 := Tryz.func44.trans (congrArg some (by kernel_rfl))
  f298 := Tryz.func45.trans (congrArg some (by kernel_rfl))
  f299 := Tryz.func46.trans (congrArg some (by kernel_rfl))
  f300 := Tryz.func48.trans (congrArg some (by kernel_rfl))
  f301 := Tryz.func49.trans (congrArg some (by kernel_rfl))
  f328 := Tryz.func78.trans (congrArg some (by kernel_rfl))
  f329 := Tryz.func79.trans (congrArg some (by kernel_rfl))
  f330 := Tryz.func80.trans (congrArg some (by kernel_rfl))
  f331 := Tryz.func81.trans (congrArg some (by kernel_rfl))
  f332 := Tryz.func82.trans (congrArg some (by kernel_rfl))
  f343 := Tryz.func93.trans (congrArg some (by kernel_rfl))
  t0 := Tryz.underlying0
  a0 := Tryz.isAgg0
  z0 := Tryz.sizeOf0
  v0 := Tryz.zeroValue0
  t3 := Tryz.underlying3
  a3 := Tryz.isAgg3
  z3 := Tryz.sizeOf3
  v3 := Tryz.zeroValue3
  t4 := Tryz.underlying4
  a4 := Tryz.isAgg4
  z4 := Tryz.sizeOf4
  v4 := Tryz.zeroValue4
  t5 := Tryz.underlying5
  a5 := Tryz.isAgg5
  z5 := Tryz.sizeOf5
  v5 := Tryz.zeroValue5
  t9 := Tryz.underlying9
  a9 := Tryz.isAgg9
  z9 := Tryz.sizeOf9
  v9 := Tryz.zeroValue9
  t28 := Tryz.underlying25
  a28 := Tryz.isAgg25
  z28 := Tryz.sizeOf25
  v28 := Tryz.zeroValue25
  t46 := Tryz.underlying63
  a46 := Tryz.isAgg63
  z46 := Tryz.sizeOf63
  v46 := Tryz.zeroValue63
  t51 := Tryz.underlying91
  a51 := Tryz.isAgg91
  z51 := Tryz.sizeOf91
  v51 := Tryz.zeroValue91
  t53 := Tryz.underlying93
  a53 := Tryz.isAgg93
  z53 := Tryz.sizeOf93
  v53 := Tryz.zeroValue93
  t131 := Tryz.underlying31
  a131 := Tryz.isAgg31
  z131 := Tryz.sizeOf31
  v131 := Tryz.zeroValue31
  t182 := Tryz.underlying84
  a182 := Tryz.isAgg84
  z182 := Tryz.sizeOf84
  v182 := Tryz.zeroValue84
  t183 := Tryz.underlying85
  a183 := Tryz.isAgg85
  z183 := Tryz.sizeOf85
  v183 := Tryz.zeroValue85
  t218 := Tryz.underlying109
  a218 := Tryz.isAgg109
  z218 := Tryz.sizeOf109
  v218 := Tryz.zeroValue109
  t222 := Tryz.underlying113
  a222 := Tryz.isAgg113
  z222 := Tryz.sizeOf113
  v222 := Tryz.zeroValue113
  t228 := Tryz.underlying121
  a228 := Tryz.isAgg121
  z228 := Tryz.sizeOf121
  v228 := Tryz.zeroValue121
  t229 := Tryz.underlying122
  a229 := Tryz.isAgg122
  z229 := Tryz.sizeOf122
  v229 := Tryz.zeroValue122 }
theorem own_row {w : World} {base n c : Nat} {t : TypeId} {A : Option Addr} {xs : List Value} (h : Own w base t 1 A n c xs) : (A = none ∧ n = 0 ∧ c = 0) ∨ ∃ g cur, A = some ⟨g, 0, none⟩ ∧ base ≤ g ∧ w.heap[g]? = some (.cells cur t (0, 0)) ∧ n ≤ c ∧ c ≤ maxLen ∧ cur.size = c * 1 ∧ cur.toList.take (n * 1) = xs := by
  rcases h.2 with ⟨hv, h0⟩ | ⟨g, cap, cur, hv, hb, hh, h1, h2, h3, h4⟩
  · injection hv with e1 e2 e3
    exact .inl ⟨e1, e2, e3⟩
  · injection hv with e1 e2 e3
    subst e3
    exact .inr ⟨g, cur, e1, hb, hh, h1, h2, h3, h4⟩
/-- Numbers in order. -/
def srt (zs : List Int) : List Int := zs.mergeSort fun x y => decide (x ≤ y)
theorem srt_perm (zs : List Int) : (srt zs).Perm zs := List.mergeSort_perm zs _
theorem srt_up (zs : List Int) : (srt zs).Pairwise (fun x z => x ≤ z) := by
  have hs := List.pairwise_mergeSort (le := fun x y : Int => decide (x ≤ y)) (fun a b c h1 h2 => by simp at h1 h2 ⊢; omega) (fun a b => by simp; omega) zs
  exact hs.imp fun h => by simpa using h
theorem slsort_own {w : World} {base n c : Nat} {A : Option Addr} {zs : List Int} (h : Own w base 3 1 A n c (ints zs)) (hn : n ≤ 1000) :
    Calls Tryz.prog 15 #[.slice A n c] w fun e w' => e = .returned (.tuple #[]) ∧ Own w' base 3 1 A n c (ints (srt zs)) ∧ w.grownBy w' (blockOf A) := by
  have hl : zs.length = n := h.sl.ilen
  unfold srt
  rcases own_row h with ⟨rfl, rfl, rfl⟩ | ⟨g, cur, rfl, hb, hh, h1, h2, h3, h4⟩
  · have hz : zs = [] := List.eq_nil_of_length_eq_zero hl
    subst hz
    refine (Any.slices_Sort_int_none laysSlSort none 0 w).mono ?_
    rintro e w' ⟨rfl, rfl⟩
    exact ⟨rfl, by simpa using h, World.grownBy.refl _ _⟩
  · subst hl
    rw [Nat.mul_one] at h4
    have hH : Holds (Value.int .i64) w g 0 zs.toArray := holds_of_blockI hh h4
    refine (Any.slices_Sort_int laysSlSort g 0 c zs w hH (Array.getElem?_eq_some_iff.1 hh).1 (by omega)).mono ?_
    rintro e w' ⟨rfl, nn, os, rfl⟩
    have hl2 : (zs.mergeSort fun x y => decide (x ≤ y)).length = zs.length := List.length_mergeSort zs
    exact ⟨rfl, ownsRow_sortedI hl2 hb hh h1 h2 h3, grownBy_sortedI _⟩
/-- The counts of the first k, noughts behind. -/
def szTo (M : List Ct) (k : Nat) : List Int := (M.map (·.2)).take k ++ List.replicate (M.length - k) 0
theorem szTo_zero (M : List Ct) : szTo M 0 = List.replicate M.length 0 := by simp [szTo]
theorem szTo_all (M : List Ct) : szTo M M.length = M.map (·.2) := by
  rw [szTo, Nat.sub_self, List.replicate_zero, List.append_nil]
  exact List.take_of_length_le (by simp)
theorem szTo_at {M : List Ct} {k : Nat} (hk : k < M.length) : (szTo M k)[k]? = some 0 := by
  unfold szTo
  rw [List.getElem?_append_right (by simp; omega), List.getElem?_replicate, if_pos (by simp; omega)]
theorem szTo_next {M : List Ct} {k : Nat} {x : Ct} (h : M[k]? = some x) : (szTo M k).set k x.2 = szTo M (k + 1) := by
  have hk := (List.getElem?_eq_some_iff.1 h).1
  unfold szTo
  have hl : ((M.map (·.2)).take k).length = k := by rw [List.length_take, List.length_map]; omega
  have h1 : (M.map (·.2)).take (k + 1) = (M.map (·.2)).take k ++ [x.2] := by rw [List.take_add_one, List.getElem?_map, h]; rfl
  rw [h1, List.set_append_right _ _ (by omega), hl, Nat.sub_self, show M.length - k = (M.length - (k + 1)) + 1 by omega, List.replicate_succ, List.set_cons_zero, List.append_assoc]
  rfl
end Go.Proofs.YtfopihlbdceepaaGreat
