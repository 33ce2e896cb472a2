/-
  slices.Insert at []int of a row of the call's own, one value. Conditions: the row is the call's own; it is short.
-/
import Derived.Test.YtkliebhpdcjdgaaInsP
import Derived.Test.YtkliebhpdcjdgaaClone
import Derived.Ground.Names2Prog
import Derived.Shelf.Spec.SlicesInsert
import Derived.Shelf.Spec.SlicesInsertGrow
namespace Go.Proofs.Ytkliebhpdcjdgaa
open Go.RowKit Go.Shelf

theorem grownBy_drewn {w w' : World} {row : Option Nat} (h : w.grownBy w' row) : w.grownBy w'.drew row := ⟨h.os, h.tape, h.output, h.size, h.block⟩
def laysIns_ren : Go.Shelf.Ren := ⟨fun | 21 => 58 | 27 => 96 | 28 => 97 | 35 => 125 | 39 => 160 | n => n, fun | 22 => 22 | 3 => 3 | 4 => 4 | 0 => 0 | n => n, fun | n => n⟩
theorem laysIns : Go.Proofs.Lays2.n21 Try.prog laysIns_ren := {
  mixed := by kernel_rfl
  f21 := Try.func58.trans (congrArg some (by kernel_rfl))
  f27 := Try.func96.trans (congrArg some (by kernel_rfl))
  f28 := Try.func97.trans (congrArg some (by kernel_rfl))
  f35 := Try.func125.trans (congrArg some (by kernel_rfl))
  f39 := Try.func160.trans (congrArg some (by kernel_rfl))
  t0 := Try.underlying0
  a0 := Try.isAgg0
  z0 := Try.sizeOf0
  v0 := Try.zeroValue0
  t3 := Try.underlying3
  a3 := Try.isAgg3
  z3 := Try.sizeOf3
  v3 := Try.zeroValue3
  t4 := Try.underlying4
  a4 := Try.isAgg4
  z4 := Try.sizeOf4
  v4 := Try.zeroValue4
  t22 := Try.underlying22
  a22 := Try.isAgg22
  z22 := Try.sizeOf22
  v22 := Try.zeroValue22
  i3 := by kernel_rfl }
theorem insert_ok {w : World} {base n c vb i : Nat} {A : Option Addr} {xs : List Int} {x : Int} (own : Own w base 3 1 A n c (ints xs)) (hv : Blk w vb 3 #[.int .i64 x]) (hap : blockOf A ≠ some vb) (hi : i ≤ n) (hbase : base ≤ w.heap.size) (hn : n ≤ 1000) :
    Calls Try.prog 58 #[.slice A n c, .int .i64 i, .slice (some ⟨vb, 0, none⟩) 1 1] w fun e w' => ∃ A' c', e = .returned (.slice A' (n + 1) c') ∧ Own w' base 3 1 A' (n + 1) c' (ints (xs.take i ++ x :: xs.drop i)) ∧ w.grownBy w' (blockOf A) := by
  have hrd : ∀ row, w.grownBy w.drew row := fun row => ⟨rfl, rfl, rfl, Nat.le_refl _, fun _ _ _ => rfl⟩
  have hl : xs.length = n := own.sl.ilen
  have hcap := own.cap
  have hc63 : c ≤ 9223372036854775807 := by have := hcap.2; simpa [maxLen] using this
  have hvs : ∀ j v, ([Value.int .i64 x] : List Value)[j]? = some v → w.cell? ⟨vb, 0 + j, none⟩ = some v := by
    intro j v hj
    rw [Nat.zero_add]
    exact hv.at_ (by simpa using hj)
  have h1v : ∀ v ∈ ([Value.int .i64 x] : List Value), v.oneCell' = true := by intro v hv; rw [List.mem_singleton] at hv; subst hv; rfl
  have hfin : ints (xs.take i ++ x :: xs.drop i) = (ints xs).take i ++ Value.int .i64 x :: (ints xs).drop i := by simp [ints]
  have hlen : (ints xs).length = n := by rw [ints_len, hl]
  by_cases hroom : n + 1 ≤ c
  · obtain ⟨g, cur, rfl, hg, hh, hs, hx⟩ := own.row (by omega)
    rw [Nat.mul_one] at hs hx
    have hcl : cur.toList.length = c := by rw [Array.length_toList, hs]
    have hvg : vb ≠ g := fun e => hap (by rw [e]; rfl)
    have hcell : ∀ j, j < c → (w.cell? ⟨g, j, none⟩).isSome = true := by
      intro j hj
      rw [cell_of_row w g j cur _ (0, 0) hh, Array.getElem?_eq_getElem (by omega)]
      rfl
    have hfz : ∀ j, w.frozen? ⟨g, j, none⟩ = false := fun j => frozen_of_row w g j cur _ hh
    have hcs : ∀ j v, (ints xs)[j]? = some v → w.cell? ⟨g, 0 + j, none⟩ = some v := by
      intro j v hj
      rw [Nat.zero_add]
      exact own.cell hj
    by_cases he : i = n
    · subst he
      refine (Any2.slices_Insert_int_end_room laysIns g 0 i c vb 0 1 1 [.int .i64 x] w (by omega) hroom hc63 rfl (fun j hj => by rw [Nat.zero_add]; exact hcell _ (by omega)) (fun j _ => hfz _) hvs h1v).mono ?_
      rintro e w' ⟨rfl, rfl⟩
      rw [Nat.zero_add]
      obtain ⟨h2, h3⟩ := heap_setCells g _ [.int .i64 x] i w cur hh
      refine ⟨_, c, rfl, Own.of_row hg h2 (by simp [layAt_len, hcl]) hroom hcap.2 ?_, h3⟩
      rw [hfin, List.take_of_length_le (by omega : (ints xs).length ≤ i), List.drop_of_length_le (by omega : (ints xs).length ≤ i), Nat.mul_one]
      rw [show ((layAt cur.toList i [.int .i64 x]).toArray).toList = layAt cur.toList i [.int .i64 x] from rfl, layAt_eq _ _ _ (by simp; omega), hx, List.take_append_of_le_length (by simp; omega), List.take_of_length_le (by simp; omega)]
    · obtain ⟨tA, kA, hsa, _⟩ := hv.shape Nat.zero_lt_one
      obtain ⟨tB, kB, hsb, hkB⟩ := (show Blk w g _ cur from hh).shape (by omega)
      refine (Any2.slices_Insert_int_shift laysIns g 0 n c i vb 0 1 1 (ints xs) [.int .i64 x] w (by omega) (by omega) hroom hc63 hvg hlen rfl hcs (fun j hj => by rw [Nat.zero_add]; exact hcell _ (by omega)) (fun j _ => hfz _) hvs (ints_one _) h1v tA tB kA kB hsa hsb hkB (hv.free _) (hv.free _)).mono ?_
      rintro e w' ⟨rfl, rfl⟩
      rw [Nat.zero_add, Nat.zero_add]
      have hh' : w.drew.heap[g]? = some (.cells cur 3 (0, 0)) := hh
      obtain ⟨h2, h3⟩ := heap_setCells g _ ((ints xs).drop i) (i + 1) w.drew cur hh'
      obtain ⟨h4, h5⟩ := heap_setCells g _ [.int .i64 x] i _ _ h2
      have hgr : w.drew.grownBy _ (some g) := h3.trans h5
      refine ⟨_, c, rfl, Own.of_row hg h4 (by simp [layAt_len, hcl]) hroom hcap.2 ?_, (hrd _).trans hgr⟩
      have hdl : ((ints xs).drop i).length = n - i := by rw [List.length_drop, hlen]
      rw [hfin, Nat.mul_one]
      simp only [List.toList_toArray]
      rw [layAt_eq ((ints xs).drop i) cur.toList (i + 1) (by rw [hdl]; omega), layAt_eq [.int .i64 x] _ i (by simp; omega)]
      have e1 : (cur.toList.take (i + 1) ++ (ints xs).drop i ++ cur.toList.drop (i + 1 + ((ints xs).drop i).length)).take i = (ints xs).take i := by
        rw [List.append_assoc, List.take_append_of_le_length (by rw [List.length_take]; omega), List.take_take, Nat.min_eq_left (by omega), ← hx, List.take_take, Nat.min_eq_left (by omega)]
      have e2 : (cur.toList.take (i + 1) ++ (ints xs).drop i ++ cur.toList.drop (i + 1 + ((ints xs).drop i).length)).drop (i + 1) = (ints xs).drop i ++ cur.toList.drop (i + 1 + ((ints xs).drop i).length) := by
        rw [List.append_assoc, List.drop_append_of_le_length (by rw [List.length_take]; omega), List.drop_of_length_le (by rw [List.length_take]; omega), List.nil_append]
      simp only [List.length_singleton]
      rw [e1, e2, List.append_assoc, List.take_append, List.length_take, hlen, List.take_of_length_le (by rw [List.length_take]; omega), Nat.min_eq_left hi]
      congr 1
      rw [show n + 1 - i = (n - i) + 1 by omega, List.singleton_append, List.take_succ_cons, List.take_append_of_le_length (by omega), List.take_of_length_le (by omega)]
  · have hgc : n + 1 ≤ grownCap w (n + 1) c 3 := grownCap_ge _ _ _ _
    have hgm : grownCap w (n + 1) c 3 ≤ maxLen := grownCap_le_maxLen _ _ _ _ (by simp only [maxLen]; omega)
    have hz : ∀ m, (Builtin.zeroCells (Value.int .i64 0).cells m).size = m := fun m => by rw [size_zeroCells]; simp [Value.cells]
    by_cases he : i = n
    · subst he
      refine (Any2.slices_Insert_int_end_grow laysIns A i c vb 0 1 1 (ints xs) [.int .i64 x] w (by omega) hcap.1 (by omega) (by omega) hlen rfl (fun hA => by have := own.sl.nul hA; omega) (fun a ha j v hj => ?_) hvs h1v).mono ?_
      · obtain ⟨ad, ha2, _, hc2⟩ := own.sl.cell hj
        rw [ha] at ha2
        injection ha2 with ha2
        subst ha2
        exact hc2
      · rintro e w' ⟨rfl, rfl⟩
        refine ⟨_, _, rfl, Own.of_row hbase (heap_alloc_new w.drew _) ?_ hgc hgm ?_, (hrd _).trans (World.grownBy_alloc _ _ _)⟩
        · rw [Array.size_append, hz]
          simp [ints_len, hl]
          show i + 1 + (grownCap w (i + 1) c 3 - (i + 1)) = grownCap w (i + 1) c 3
          omega
        · rw [hfin, List.take_of_length_le (by omega : (ints xs).length ≤ i), List.drop_of_length_le (by omega : (ints xs).length ≤ i), Nat.mul_one, Array.toList_append, List.take_append_of_le_length (by simp; omega), List.take_of_length_le (by simp; omega)]
    · obtain ⟨g, rfl, hg, _⟩ := own.addr (by omega)
      have hcs : ∀ j v, (ints xs)[j]? = some v → w.cell? ⟨g, 0 + j, none⟩ = some v := by
        intro j v hj
        rw [Nat.zero_add]
        exact own.cell hj
      refine (Any2.slices_Insert_int_grow laysIns g 0 n c i vb 0 1 1 (ints xs) [.int .i64 x] w (by omega) (by omega) hcap.1 (by omega) (by omega) hlen rfl hcs hvs (ints_one _) h1v).mono ?_
      rintro e w' ⟨rfl, rfl⟩
      have hh := heap_alloc_new w (.cells (((ints xs).take i).toArray ++ Builtin.zeroCells (Value.int .i64 0).cells (n + 1 - i) ++ Builtin.zeroCells (Value.int .i64 0).cells (grownCap w (n + 1) c 3 - (n + 1))) 3)
      obtain ⟨h2, h3⟩ := heap_setCells w.heap.size _ [.int .i64 x] i (w.alloc (.cells (((ints xs).take i).toArray ++ Builtin.zeroCells (Value.int .i64 0).cells (n + 1 - i) ++ Builtin.zeroCells (Value.int .i64 0).cells (grownCap w (n + 1) c 3 - (n + 1))) 3)).drew _ hh
      obtain ⟨h4, h5⟩ := heap_setCells w.heap.size _ ((ints xs).drop i) (i + 1) ((w.alloc (.cells (((ints xs).take i).toArray ++ Builtin.zeroCells (Value.int .i64 0).cells (n + 1 - i) ++ Builtin.zeroCells (Value.int .i64 0).cells (grownCap w (n + 1) c 3 - (n + 1))) 3)).drew.setCells w.heap.size i [.int .i64 x]).drew _ h2
      obtain ⟨zs, hzs, hzl⟩ : ∃ zs : List Value, (Builtin.zeroCells (Value.int .i64 0).cells (n + 1 - i)).toList = zs ∧ zs.length = n + 1 - i := ⟨_, rfl, by rw [Array.length_toList, hz]⟩
      obtain ⟨ys, hys, hyl⟩ : ∃ ys : List Value, (Builtin.zeroCells (Value.int .i64 0).cells (grownCap w (n + 1) c 3 - (n + 1))).toList = ys ∧ ys.length = grownCap w (n + 1) c 3 - (n + 1) := ⟨_, rfl, by rw [Array.length_toList, hz]⟩
      have htl : ((ints xs).take i).length = i := by rw [List.length_take, hlen, Nat.min_eq_left hi]
      have hdl : ((ints xs).drop i).length = n - i := by rw [List.length_drop, hlen]
      simp only [Array.toList_append, hzs, hys] at h4
      have hb1 : w.grownBy (w.alloc (.cells (((ints xs).take i).toArray ++ Builtin.zeroCells (Value.int .i64 0).cells (n + 1 - i) ++ Builtin.zeroCells (Value.int .i64 0).cells (grownCap w (n + 1) c 3 - (n + 1))) 3)).drew (some g) := grownBy_drewn (World.grownBy_alloc _ _ _)
      have hb2 := World.grownBy.andThen hb1 h3 (fun j hj => by injection hj with hj; left; omega)
      have hb3 := World.grownBy.andThen (grownBy_drewn hb2) h5 (fun j hj => by injection hj with hj; left; omega)
      refine ⟨_, _, rfl, Own.of_row hbase h4 ?_ hgc hgm ?_, hb3⟩
      · simp [layAt_len, htl, hzl, hyl]
        show _ = grownCap w (n + 1) c 3
        omega
      · rw [hfin, Nat.mul_one]
        simp only [List.toList_toArray]
        rw [layAt_eq [.int .i64 x] _ i (by simp; omega)]
        have e1 : ((ints xs).take i ++ zs ++ ys).take i = (ints xs).take i := by rw [List.append_assoc, List.take_append_of_le_length (by omega), List.take_of_length_le (by omega)]
        rw [e1, layAt_eq ((ints xs).drop i) _ (i + 1) (by simp [htl, hzl, hyl]; omega)]
        have e2 : ((ints xs).take i ++ [Value.int .i64 x] ++ ((ints xs).take i ++ zs ++ ys).drop (i + [Value.int .i64 x].length)).take (i + 1) = (ints xs).take i ++ [Value.int .i64 x] := by
          rw [List.take_append_of_le_length (by simp; omega), List.take_of_length_le (by simp; omega)]
        rw [e2, List.append_assoc, List.append_assoc, List.take_append, List.take_of_length_le (by omega), htl]
        congr 1
        rw [show n + 1 - i = (n - i) + 1 by omega, List.singleton_append, List.take_succ_cons, List.take_append_of_le_length (by omega), List.take_of_length_le (by omega)]
end Go.Proofs.Ytkliebhpdcjdgaa
