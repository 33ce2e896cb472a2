/- Proves the parts of the claim that its last text joins: Ins, Bot3. Conditions: those that each theorem names. -/
import Derived.Test.YtjpbjghdplbdcaaGreatDoorM11
import Derived.Test.YtjpbjghdplbdcaaGreatDoorM06
import Derived.Ground.Names2Prog
import Derived.Shelf.Spec.SlicesInsert
import Derived.Shelf.Spec.SlicesInsertGrow
import Derived.Test.YtjpbjghdplbdcaaGreatDoorM09
import Derived.Shelf.SlGeneric
import Derived.Shelf.SlicesG.SearchI
import Derived.Ground.SlgnProg
import Derived.Deep.LoopGhost
import Derived.Deep.DeepCutAuto
import Derived.BigRegion
import Derived.Outline
import Derived.Deep.Cut
section
namespace Go.Proofs.YtjpbjghdplbdcaaGreatDoor
open Go.RowKit Go.Shelf
theorem grownBy_drewn {w w' : World} {row : Option Nat} (h : w.grownBy w' row) : w.grownBy w'.drew row := ⟨h.os, h.tape, h.output, h.size, h.block⟩
def laysIns_ren : Go.Shelf.Ren := ⟨fun | 21 => 241 | 27 => 301 | 28 => 302 | 35 => 339 | 39 => 356 | n => n, fun | 22 => 43 | 3 => 3 | 4 => 4 | 0 => 0 | n => n, fun | n => n⟩
theorem laysIns : Go.Proofs.Lays2.n21 Tryz.prog laysIns_ren := {
  mixed := by kernel_rfl
  f21 := Tryz.func241.trans (congrArg some (by kernel_rfl))
  f27 := Tryz.func301.trans (congrArg some (by kernel_rfl))
  f28 := Tryz.func302.trans (congrArg some (by kernel_rfl))
  f35 := Tryz.func339.trans (congrArg some (by kernel_rfl))
  f39 := Tryz.func356.trans (congrArg some (by kernel_rfl))
  t0 := Tryz.underlying0
  a0 := Tryz.isAgg0
  z0 := Tryz.sizeOf0
  v0 := Tryz.zeroValue0
  t3 := Tryz.underlying3
  a3 := Tryz.isAgg3
  z3 := Tryz.sizeOf3
  v3 := Tryz.zeroValue3
  t4 := Tryz.underlying4
  a4 := Tryz.isAgg4
  z4 := Tryz.sizeOf4
  v4 := Tryz.zeroValue4
  t22 := Tryz.underlying43
  a22 := Tryz.isAgg43
  z22 := Tryz.sizeOf43
  v22 := Tryz.zeroValue43
  i3 := by kernel_rfl }
theorem insert_ok {w : World} {base n c vb i : Nat} {A : Option Addr} {xs : List Int} {x : Int} (own : Own w base 3 1 A n c (ints xs)) (hv : Blk w vb 3 #[.int .i64 x]) (hap : blockOf A ≠ some vb) (hi : i ≤ n) (hbase : base ≤ w.heap.size) (hn : n ≤ 1000) :
    Calls Tryz.prog 241 #[.slice A n c, .int .i64 i, .slice (some ⟨vb, 0, none⟩) 1 1] w fun e w' => ∃ A' c', e = .returned (.slice A' (n + 1) c') ∧ Own w' base 3 1 A' (n + 1) c' (ints (xs.take i ++ x :: xs.drop i)) ∧ w.grownBy w' (blockOf A) := by
  have hrd : ∀ row, w.grownBy w.drew row := fun row => ⟨rfl, rfl, rfl, Nat.le_refl _, fun _ _ _ => rfl⟩
  have hl : xs.length = n := own.sl.ilen
  have hcap := own.cap
  have hc63 : c ≤ 9223372036854775807 := by have := hcap.2; simpa [maxLen] using this
  have hvs : ∀ j v, ([Value.int .i64 x] : List Value)[j]? = some v → w.cell? ⟨vb, 0 + j, none⟩ = some v := by
    intro j v hj
    rw [Nat.zero_add]
    exact hv.at_ (by simpa using hj)
  have h1v : ∀ v ∈ ([Value.int .i64 x] : List Value), v.oneCell' = true := by intro v hv; rw [List.mem_singleton] at hv; subst hv; rfl
  have hfin : ints (xs.take i ++ x :: xs.drop i) = (ints xs).take i ++ Value.int .i64 x :: (ints xs).drop i := by simp [ints]
  have hlen : (ints xs).length = n := by rw [ints_len, hl]
  by_cases hroom : n + 1 ≤ c
  · obtain ⟨g, cur, rfl, hg, hh, hs, hx⟩ := own.row (by omega)
    rw [Nat.mul_one] at hs hx
    have hcl : cur.toList.length = c := by rw [Array.length_toList, hs]
    have hvg : vb ≠ g := fun e => hap (by rw [e]; rfl)
    have hcell : ∀ j, j < c → (w.cell? ⟨g, j, none⟩).isSome = true := by
      intro j hj
      rw [cell_of_row w g j cur _ (0, 0) hh, Array.getElem?_eq_getElem (by omega)]
      rfl
    have hfz : ∀ j, w.frozen? ⟨g, j, none⟩ = false := fun j => frozen_of_row w g j cur _ hh
    have hcs : ∀ j v, (ints xs)[j]? = some v → w.cell? ⟨g, 0 + j, none⟩ = some v := by
      intro j v hj
      rw [Nat.zero_add]
      exact own.cell hj
    by_cases he : i = n
    · subst he
      refine (Any2.slices_Insert_int_end_room laysIns g 0 i c vb 0 1 1 [.int .i64 x] w (by omega) hroom hc63 rfl (fun j hj => by rw [Nat.zero_add]; exact hcell _ (by omega)) (fun j _ => hfz _) hvs h1v).mono ?_
      rintro e w' ⟨rfl, rfl⟩
      rw [Nat.zero_add]
      obtain ⟨h2, h3⟩ := heap_setCells g _ [.int .i64 x] i w cur hh
      refine ⟨_, c, rfl, Own.of_row hg h2 (by simp [layAt_len, hcl]) hroom hcap.2 ?_, h3⟩
      rw [hfin, List.take_of_length_le (by omega : (ints xs).length ≤ i), List.drop_of_length_le (by omega : (ints xs).length ≤ i), Nat.mul_one]
      rw [show ((layAt cur.toList i [.int .i64 x]).toArray).toList = layAt cur.toList i [.int .i64 x] from rfl, layAt_eq _ _ _ (by simp; omega), hx, List.take_append_of_le_length (by simp; omega), List.take_of_length_le (by simp; omega)]
    · obtain ⟨tA, kA, hsa, _⟩ := hv.shape Nat.zero_lt_one
      obtain ⟨tB, kB, hsb, hkB⟩ := (show Blk w g _ cur from hh).shape (by omega)
      refine (Any2.slices_Insert_int_shift laysIns g 0 n c i vb 0 1 1 (ints xs) [.int .i64 x] w (by omega) (by omega) hroom hc63 hvg hlen rfl hcs (fun j hj => by rw [Nat.zero_add]; exact hcell _ (by omega)) (fun j _ => hfz _) hvs (ints_one _) h1v tA tB kA kB hsa hsb hkB (hv.free _) (hv.free _)).mono ?_
      rintro e w' ⟨rfl, rfl⟩
      rw [Nat.zero_add, Nat.zero_add]
      have hh' : w.drew.heap[g]? = some (.cells cur 3 (0, 0)) := hh
      obtain ⟨h2, h3⟩ := heap_setCells g _ ((ints xs).drop i) (i + 1) w.drew cur hh'
      obtain ⟨h4, h5⟩ := heap_setCells g _ [.int .i64 x] i _ _ h2
      have hgr : w.drew.grownBy _ (some g) := h3.trans h5
      refine ⟨_, c, rfl, Own.of_row hg h4 (by simp [layAt_len, hcl]) hroom hcap.2 ?_, (hrd _).trans hgr⟩
      have hdl : ((ints xs).drop i).length = n - i := by rw [List.length_drop, hlen]
      rw [hfin, Nat.mul_one]
      simp only [List.toList_toArray]
      rw [layAt_eq ((ints xs).drop i) cur.toList (i + 1) (by rw [hdl]; omega), layAt_eq [.int .i64 x] _ i (by simp; omega)]
      have e1 : (cur.toList.take (i + 1) ++ (ints xs).drop i ++ cur.toList.drop (i + 1 + ((ints xs).drop i).length)).take i = (ints xs).take i := by
        rw [List.append_assoc, List.take_append_of_le_length (by rw [List.length_take]; omega), List.take_take, Nat.min_eq_left (by omega), ← hx, List.take_take, Nat.min_eq_left (by omega)]
      have e2 : (cur.toList.take (i + 1) ++ (ints xs).drop i ++ cur.toList.drop (i + 1 + ((ints xs).drop i).length)).drop (i + 1) = (ints xs).drop i ++ cur.toList.drop (i + 1 + ((ints xs).drop i).length) := by
        rw [List.append_assoc, List.drop_append_of_le_length (by rw [List.length_take]; omega), List.drop_of_length_le (by rw [List.length_take]; omega), List.nil_append]
      simp only [List.length_singleton]
      rw [e1, e2, List.append_assoc, List.take_append, List.length_take, hlen, List.take_of_length_le (by rw [List.length_take]; omega), Nat.min_eq_left hi]
      congr 1
      rw [show n + 1 - i = (n - i) + 1 by omega, List.singleton_append, List.take_succ_cons, List.take_append_of_le_length (by omega), List.take_of_length_le (by omega)]
  · have hgc : n + 1 ≤ grownCap w (n + 1) c 3 := grownCap_ge _ _ _ _
    have hgm : grownCap w (n + 1) c 3 ≤ maxLen := grownCap_le_maxLen _ _ _ _ (by simp only [maxLen]; omega)
    have hz : ∀ m, (Builtin.zeroCells (Value.int .i64 0).cells m).size = m := fun m => by rw [size_zeroCells]; simp [Value.cells]
    by_cases he : i = n
    · subst he
      refine (Any2.slices_Insert_int_end_grow laysIns A i c vb 0 1 1 (ints xs) [.int .i64 x] w (by omega) hcap.1 (by omega) (by omega) hlen rfl (fun hA => by have := own.sl.nul hA; omega) (fun a ha j v hj => ?_) hvs h1v).mono ?_
      · obtain ⟨ad, ha2, _, hc2⟩ := own.sl.cell hj
        rw [ha] at ha2
        injection ha2 with ha2
        subst ha2
        exact hc2
      · rintro e w' ⟨rfl, rfl⟩
        refine ⟨_, _, rfl, Own.of_row hbase (heap_alloc_new w.drew _) ?_ hgc hgm ?_, (hrd _).trans (World.grownBy_alloc _ _ _)⟩
        · rw [Array.size_append, hz]
          simp [ints_len, hl]
          show i + 1 + (grownCap w (i + 1) c 3 - (i + 1)) = grownCap w (i + 1) c 3
          omega
        · rw [hfin, List.take_of_length_le (by omega : (ints xs).length ≤ i), List.drop_of_length_le (by omega : (ints xs).length ≤ i), Nat.mul_one, Array.toList_append, List.take_append_of_le_length (by simp; omega), List.take_of_length_le (by simp; omega)]
    · obtain ⟨g, rfl, hg, _⟩ := own.addr (by omega)
      have hcs : ∀ j v, (ints xs)[j]? = some v → w.cell? ⟨g, 0 + j, none⟩ = some v := by
        intro j v hj
        rw [Nat.zero_add]
        exact own.cell hj
      refine (Any2.slices_Insert_int_grow laysIns g 0 n c i vb 0 1 1 (ints xs) [.int .i64 x] w (by omega) (by omega) hcap.1 (by omega) (by omega) hlen rfl hcs hvs (ints_one _) h1v).mono ?_
      rintro e w' ⟨rfl, rfl⟩
      have hh := heap_alloc_new w (.cells (((ints xs).take i).toArray ++ Builtin.zeroCells (Value.int .i64 0).cells (n + 1 - i) ++ Builtin.zeroCells (Value.int .i64 0).cells (grownCap w (n + 1) c 3 - (n + 1))) 3)
      obtain ⟨h2, h3⟩ := heap_setCells w.heap.size _ [.int .i64 x] i (w.alloc (.cells (((ints xs).take i).toArray ++ Builtin.zeroCells (Value.int .i64 0).cells (n + 1 - i) ++ Builtin.zeroCells (Value.int .i64 0).cells (grownCap w (n + 1) c 3 - (n + 1))) 3)).drew _ hh
      obtain ⟨h4, h5⟩ := heap_setCells w.heap.size _ ((ints xs).drop i) (i + 1) ((w.alloc (.cells (((ints xs).take i).toArray ++ Builtin.zeroCells (Value.int .i64 0).cells (n + 1 - i) ++ Builtin.zeroCells (Value.int .i64 0).cells (grownCap w (n + 1) c 3 - (n + 1))) 3)).drew.setCells w.heap.size i [.int .i64 x]).drew _ h2
      obtain ⟨zs, hzs, hzl⟩ : ∃ zs : List Value, (Builtin.zeroCells (Value.int .i64 0).cells (n + 1 - i)).toList = zs ∧ zs.length = n + 1 - i := ⟨_, rfl, by rw [Array.length_toList, hz]⟩
      obtain ⟨ys, hys, hyl⟩ : ∃ ys : List Value, (Builtin.zeroCells (Value.int .i64 0).cells (grownCap w (n + 1) c 3 - (n + 1))).toList = ys ∧ ys.length = grownCap w (n + 1) c 3 - (n + 1) := ⟨_, rfl, by rw [Array.length_toList, hz]⟩
      have htl : ((ints xs).take i).length = i := by rw [List.length_take, hlen, Nat.min_eq_left hi]
      have hdl : ((ints xs).drop i).length = n - i := by rw [List.length_drop, hlen]
      simp only [Array.toList_append, hzs, hys] at h4
      have hb1 : w.grownBy (w.alloc (.cells (((ints xs).take i).toArray ++ Builtin.zeroCells (Value.int .i64 0).cells (n + 1 - i) ++ Builtin.zeroCells (Value.int .i64 0).cells (grownCap w (n + 1) c 3 - (n + 1))) 3)).drew (some g) := grownBy_drewn (World.grownBy_alloc _ _ _)
      have hb2 := World.grownBy.andThen hb1 h3 (fun j hj => by injection hj with hj; left; omega)
      have hb3 := World.grownBy.andThen (grownBy_drewn hb2) h5 (fun j hj => by injection hj with hj; left; omega)
      refine ⟨_, _, rfl, Own.of_row hbase h4 ?_ hgc hgm ?_, hb3⟩
      · simp [layAt_len, htl, hzl, hyl]
        show _ = grownCap w (n + 1) c 3
        omega
      · rw [hfin, Nat.mul_one]
        simp only [List.toList_toArray]
        rw [layAt_eq [.int .i64 x] _ i (by simp; omega)]
        have e1 : ((ints xs).take i ++ zs ++ ys).take i = (ints xs).take i := by rw [List.append_assoc, List.take_append_of_le_length (by omega), List.take_of_length_le (by omega)]
        rw [e1, layAt_eq ((ints xs).drop i) _ (i + 1) (by simp [htl, hzl, hyl]; omega)]
        have e2 : ((ints xs).take i ++ [Value.int .i64 x] ++ ((ints xs).take i ++ zs ++ ys).drop (i + [Value.int .i64 x].length)).take (i + 1) = (ints xs).take i ++ [Value.int .i64 x] := by
          rw [List.take_append_of_le_length (by simp; omega), List.take_of_length_le (by simp; omega)]
        rw [e2, List.append_assoc, List.append_assoc, List.take_append, List.take_of_length_le (by omega), htl]
        congr 1
        rw [show n + 1 - i = (n - i) + 1 by omega, List.singleton_append, List.take_succ_cons, List.take_append_of_le_length (by omega), List.take_of_length_le (by omega)]
end Go.Proofs.YtjpbjghdplbdcaaGreatDoor
end
section
namespace Go.Proofs.YtjpbjghdplbdcaaGreatDoor
open Go.RowKit Go.Shelf
def laysBS_ren : Go.Shelf.Ren := ⟨fun | 49 => 240 | 59 => 299 | 60 => 300 | 68 => 338 | n => n, fun | 22 => 43 | 23 => 3 | 3 => 3 | 4 => 4 | 51 => 166 | 0 => 0 | n => n, fun | n => n⟩
theorem laysBS : Go.Proofs.SlLaysN.n49 Tryz.prog laysBS_ren := {
  mixed := by kernel_rfl
  f49 := ⟨Tryz.f240.name, by decide, Tryz.func240.trans (congrArg some (by kernel_rfl))⟩
  f59 := ⟨Tryz.f299.name, by decide, Tryz.func299.trans (congrArg some (by kernel_rfl))⟩
  f60 := ⟨Tryz.f300.name, by decide, Tryz.func300.trans (congrArg some (by kernel_rfl))⟩
  f68 := ⟨Tryz.f338.name, by decide, Tryz.func338.trans (congrArg some (by kernel_rfl))⟩
  t0 := Tryz.underlying0
  a0 := Tryz.isAgg0
  z0 := Tryz.sizeOf0
  v0 := Tryz.zeroValue0
  t3 := Tryz.underlying3
  a3 := Tryz.isAgg3
  z3 := Tryz.sizeOf3
  v3 := Tryz.zeroValue3
  t4 := Tryz.underlying4
  a4 := Tryz.isAgg4
  z4 := Tryz.sizeOf4
  v4 := Tryz.zeroValue4
  t22 := Tryz.underlying43
  a22 := Tryz.isAgg43
  z22 := Tryz.sizeOf43
  v22 := Tryz.zeroValue43
  t23 := Tryz.underlying3
  a23 := Tryz.isAgg3
  z23 := Tryz.sizeOf3
  v23 := Tryz.zeroValue3
  t51 := Tryz.underlying166
  a51 := Tryz.isAgg166
  z51 := Tryz.sizeOf166
  v51 := Tryz.zeroValue166 }
theorem count_low {x : Int} : ∀ {l : List Int}, Up l → (∀ y ∈ l.take (l.countP (· < x)), y < x) ∧ (∀ y ∈ l.drop (l.countP (· < x)), x ≤ y)
  | [], _ => by simp
  | a :: l, h => by
    rw [Up, List.pairwise_cons] at h
    obtain ⟨h1, h2⟩ := count_low (x := x) h.2
    by_cases ha : a < x
    · rw [List.countP_cons_of_pos (by simpa using ha)]
      refine ⟨fun y hy => ?_, fun y hy => h2 y (by simpa using hy)⟩
      rw [List.take_succ_cons] at hy
      rcases List.mem_cons.1 hy with rfl | hy
      · exact ha
      · exact h1 y hy
    · have h0 : l.countP (· < x) = 0 := by
        rw [List.countP_eq_zero]
        intro y hy
        have := h.1 y hy
        simp; omega
      rw [List.countP_cons_of_neg (by simpa using ha), h0]
      refine ⟨by simp, fun y hy => ?_⟩
      rw [List.drop_zero] at hy
      rcases List.mem_cons.1 hy with rfl | hy
      · omega
      · have := h.1 y hy; omega
theorem ins_at {x : Int} {l : List Int} (h : Up l) (hx : l.contains x = false) : insU x l = l.take (l.countP (· < x)) ++ x :: l.drop (l.countP (· < x)) := by
  obtain ⟨h1, h2⟩ := count_low (x := x) h
  refine insU_at (List.countP_le_length) h1 fun y hy => ?_
  have h3 := h2 y hy
  have h4 : y ≠ x := by
    rintro rfl
    have : l.contains y = true := by simpa using List.mem_of_mem_drop hy
    rw [this] at hx; cases hx
  omega
theorem bs_ok {A : Option Addr} {n c base : Nat} {xs : List Int} {x : Int} {w : World} (own : Own w base 3 1 A n c (ints xs)) (hup : Up xs) (hn1 : n ≤ 1000) {i : Nat} {b : Bool} (hi : xs.countP (· < x) = i) (hb : xs.contains x = b) :
    Calls Tryz.prog 240 #[.slice A n c, .int .i64 x] w fun e w' => e = .returned (.tuple #[.int .i64 i, .bool b]) ∧ ∃ q, w' = w.drewN q := by
  have hl := own.sl.ilen
  have hm := own.sl.max
  have hcap := own.sl.cap
  by_cases h0 : n = 0
  · subst h0
    have hx : xs = [] := List.eq_nil_of_length_eq_zero hl
    subst hx
    simp only [List.countP_nil] at hi
    simp only [List.contains_nil] at hb
    subst hi
    subst hb
    go_enter Tryz.func240, Tryz.ntmps240
    go_wp2_with fail
    go_loopg [7, 8] 1 (fun gf s t wx => s = .int .i64 0 ∧ t = .int .i64 0 ∧ wx = w)
    case atStart => exact ⟨rfl, rfl, rfl⟩
    case round =>
      obtain ⟨rfl, rfl, rfl⟩ := hrel
      go_wp2_with fail
      go_ret2
      exact ⟨rfl, 0, rfl⟩
  · obtain ⟨g, rfl, _, _⟩ := own.addr (by omega)
    have hcell : ∀ j, j < xs.length → w.cell? ⟨g, 0 + j, none⟩ = some (.int .i64 (xs.getD j 0)) := by
      intro j hj
      rw [Nat.zero_add]
      exact own.cell (ints_at (getD_at hj))
    refine (AnyG.slices_BinarySearch_int laysBS g 0 n c xs x w (by omega) (by omega) hcell (by rw [List.take_of_length_le (by omega)]; exact hup.imp (fun h => Int.le_of_lt h))).mono ?_
    rintro e w' ⟨rfl, hq⟩
    rw [List.take_of_length_le (by omega), hi, hb]
    exact ⟨rfl, hq⟩
def BotRet (w : World) (K : Int) (zs : List Int) (e : Ending) (w' : World) : Prop :=
  ∃ A n c, e = .returned (.tuple #[.agg #[.int .i64 K, .slice A n c], .int .i64 0]) ∧ Own w' w.heap.size 3 1 A n c (ints zs) ∧ Below w.heap.size w w'
section
variable {A : Option Addr} {n c : Nat} {xs : List Int} {w : World}
theorem twoBlk (w : World) (a b a2 b2 : Value) (t : TypeId) : Blk ((w.alloc (.cells #[a, b] t)).alloc (.cells #[a2, b2] t)) w.heap.size t #[a, b] ∧ Blk ((w.alloc (.cells #[a, b] t)).alloc (.cells #[a2, b2] t)) (w.heap.size + 1) t #[a2, b2] :=
  ⟨(Blk.new w _ _).alloc _, by simpa using Blk.new (w.alloc (.cells #[a, b] t)) t #[a2, b2]⟩
set_option maxRecDepth 20000 in
set_option maxHeartbeats 1600000 in
theorem botput_arg {K x : Int} (h : Si w A n c xs) (he : botErr K n xs = 0) (hd : isDraw x = false) :
    Calls Tryz.prog 189 #[.agg #[.int .i64 K, .slice A n c], .int .i64 x] w fun e w' => e = .returned (.tuple #[.agg #[.int .i64 0, .slice none 0 0], .int .i64 1]) ∧ Below w.heap.size w w' := by
  obtain ⟨_, rb⟩ := twoBlk w (.int .i64 K) (.slice A n c) (.int .i64 0) (.slice none 0 0) 47
  have hb0 : Below w.heap.size w ((w.alloc (.cells #[.int .i64 K, .slice A n c] 47)).alloc (.cells #[.int .i64 0, .slice none 0 0] 47)) := by repeat' (first | assumption | with_reducible exact Below.refl _ _ | with_reducible apply Below.drew | with_reducible apply below_drewN | with_reducible apply below_alloc | with_reducible refine below_set ?_ ?_ _ | (simp only [World.size_alloc, World.heap_drewN]; omega) | (simp; omega))
  have HC := hide (botcheck_is (K := K) (h.on hb0) he)
  have HD := hide hd
  clear he hd
  go_enter Tryz.func189, Tryz.ntmps189
  go_wp2_with fail
  refine HC.out.mono ?_
  rintro e w1 ⟨rfl, bel⟩
  go_wp2_with fail
  refine (hnum_is HD.out _).mono ?_
  rintro e w2 ⟨rfl, rfl⟩
  have r1 := rb.below bel rb.lt
  have c0 := r1.at_ (i := 0) (u := .int .i64 0) rfl
  have c1 := r1.at_ (i := 1) (u := .slice none 0 0) rfl
  have f0 := r1.free 0
  have f1 := r1.free 1
  go_wp2_with fail
  clear c0 c1 f0 f1
  have bf := (r1.set 0 (.int .i64 0)).set 1 (.slice none 0 0)
  have hbf := below_set (below_set (below_on hb0 bel) (p := ⟨w.heap.size + 1, 0, none⟩) (by dsimp only; omega) (.int .i64 0)) (p := ⟨w.heap.size + 1, 1, none⟩) (by dsimp only; omega) (.slice none 0 0)
  generalize ((w1.setCell ⟨w.heap.size + 1, 0, none⟩ (.int .i64 0)).setCell ⟨w.heap.size + 1, 1, none⟩ (.slice none 0 0)) = wf at bf hbf ⊢
  have z0 := bf.at_ (i := 0) (u := .int .i64 0) rfl
  have z1 := bf.at_ (i := 1) (u := .slice none 0 0) rfl
  exact bodyPost_ret (v := .tuple #[.agg #[.int .i64 0, .slice none 0 0], .int .i64 1]) (by simp [results, Tryz.results189, go_sem, z0, z1]) rfl ⟨rfl, hbf⟩
end
end Go.Proofs.YtjpbjghdplbdcaaGreatDoor
end
