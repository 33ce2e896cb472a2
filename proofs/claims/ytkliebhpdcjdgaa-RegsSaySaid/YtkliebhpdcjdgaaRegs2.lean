/-
  regs.Put, regs.Join, regs.Fit: the walks. Conditions: the slices read as lists of numbers.
-/
import Derived.Test.YtkliebhpdcjdgaaRegs
import Derived.Test.YtkliebhpdcjdgaaEq
import Derived.Shelf.Small.Bits
import Derived.Ground.NamesProg
import Derived.Deep.RegionHeld3
namespace Go.Proofs.Ytkliebhpdcjdgaa
open Go.RowKit Go.Shelf

def laysLen_ren : Go.Shelf.Ren := ⟨fun | 125 => 51 | 128 => 90 | 129 => 91 | n => n, fun | 46 => 79 | 3 => 3 | 51 => 127 | 53 => 92 | 4 => 4 | 5 => 5 | 9 => 9 | n => n, fun | n => n⟩
theorem laysLen : Go.Proofs.Lays.n125 Try.prog laysLen_ren := {
  mixed := by kernel_rfl
  f125 := Try.func51.trans (congrArg some (by kernel_rfl))
  f128 := Try.func90.trans (congrArg some (by kernel_rfl))
  f129 := Try.func91.trans (congrArg some (by kernel_rfl))
  t3 := Try.underlying3
  a3 := Try.isAgg3
  z3 := Try.sizeOf3
  v3 := Try.zeroValue3
  t4 := Try.underlying4
  a4 := Try.isAgg4
  z4 := Try.sizeOf4
  v4 := Try.zeroValue4
  t5 := Try.underlying5
  a5 := Try.isAgg5
  z5 := Try.sizeOf5
  v5 := Try.zeroValue5
  t9 := Try.underlying9
  a9 := Try.isAgg9
  z9 := Try.sizeOf9
  v9 := Try.zeroValue9
  t46 := Try.underlying79
  a46 := Try.isAgg79
  z46 := Try.sizeOf79
  v46 := Try.zeroValue79
  t51 := Try.underlying127
  a51 := Try.isAgg127
  z51 := Try.sizeOf127
  v51 := Try.zeroValue127
  t53 := Try.underlying92
  a53 := Try.isAgg92
  z53 := Try.sizeOf92
  v53 := Try.zeroValue92 }
theorem bitsLen_any (x : Nat) (h : x ≤ 72057594037927935) (w : World) : Calls Try.prog 51 #[.int .u64 x] w fun e w' => e = .returned (.int .i64 (Lib.bitLen x : Int)) ∧ w' = w := by
  have k := Any.bits_Len laysLen (x : Int) w (by omega) (by omega)
  rw [Int.toNat_natCast] at k
  exact k
theorem num_any (x : Int) (w : World) : Calls Try.prog 50 #[.int .i64 x] w fun e w' => e = .returned (.bool (inR x 0 72057594037927935)) ∧ w = w' := by
  by_cases h1 : 0 ≤ x
  · by_cases h2 : x ≤ 72057594037927935
    · have E := hide (inR_yes ⟨h1, h2⟩)
      go_enter Try.func50, Try.ntmps50
      go_wp2_with fail
      go_ret
      exact ⟨by rw [E.out]; first | rfl | (simp; omega), rfl⟩
    · have E := hide (inR_no (x := x) (a := 0) (b := 72057594037927935) (by omega))
      go_enter Try.func50, Try.ntmps50
      go_wp2_with fail
      go_ret
      exact ⟨by rw [E.out]; first | rfl | (simp; omega), rfl⟩
  · have E := hide (inR_no (x := x) (a := 0) (b := 72057594037927935) (by omega))
    go_enter Try.func50, Try.ntmps50
    go_wp2_with fail
    go_ret
    exact ⟨by rw [E.out]; first | rfl | (simp; omega), rfl⟩
theorem regsCheck_is {A : Option Addr} {n c : Nat} {xs : List Int} {w : World} (h : Si w A n c xs) {E : Int} (he : rErr n xs = E) :
    Calls Try.prog 12 #[.slice A n c] w fun e w' => e = .returned (.int .i64 E) ∧ Below w.heap.size w w' := by
  have k := regsCheck_any h; rw [he] at k; exact k
/-- One more of them. -/
def regPut (n : Nat) (xs : List Int) (v : Nat) : List Int := xs.set (v % n) (max (xs.getD (v % n) 0) (57 - (Lib.bitLen (v / n) : Int)))
def maxTo (xs ys : List Int) (k : Nat) : List Int := (List.range xs.length).map fun (i : Nat) => if i < k then max (xs.getD i 0) (ys.getD i 0) else xs.getD i 0
theorem maxTo_len (xs ys : List Int) (k : Nat) : (maxTo xs ys k).length = xs.length := by simp [maxTo]
theorem maxTo_at {xs ys : List Int} {k i : Nat} (h : i < xs.length) : (maxTo xs ys k)[i]? = some (if i < k then max (xs.getD i 0) (ys.getD i 0) else xs.getD i 0) := by simp [maxTo, h]
theorem maxTo_zero (xs ys : List Int) : maxTo xs ys 0 = xs := by
  apply List.ext_getElem?
  intro i
  by_cases h : i < xs.length
  · rw [maxTo_at h, if_neg (by omega), getD_at h]
  · rw [List.getElem?_eq_none (by rw [maxTo_len]; omega), List.getElem?_eq_none (by omega)]
theorem maxTo_next {xs ys : List Int} {k : Nat} {x y : Int} (hx : xs[k]? = some x) (hy : ys[k]? = some y) : (maxTo xs ys k).set k (max x y) = maxTo xs ys (k + 1) := by
  have hk := (List.getElem?_eq_some_iff.1 hx).1
  apply List.ext_getElem?
  intro m
  by_cases hm : m < xs.length
  · rw [maxTo_at hm, List.getElem?_set, maxTo_at hm, maxTo_len]
    by_cases e : k = m
    · subst e
      rw [if_pos rfl, if_pos hk, if_pos (Nat.lt_succ_self _), getD_of hx, getD_of hy]
    · rw [if_neg e]
      by_cases h2 : m < k
      · rw [if_pos h2, if_pos (by omega)]
      · rw [if_neg h2, if_neg (by omega)]
  · rw [List.getElem?_eq_none (by rw [List.length_set, maxTo_len]; omega), List.getElem?_eq_none (by rw [maxTo_len]; omega)]
def joined (n : Nat) (xs ys : List Int) : List Int := maxTo xs ys n
def RegRet (w : World) (n : Nat) (zs : List Int) (e : Ending) (w' : World) : Prop :=
  ∃ A c, e = .returned (.tuple #[.slice A n c, .int .i64 0]) ∧ Own w' w.heap.size 3 1 A n c (ints zs) ∧ Below w.heap.size w w'
section
variable {A B : Option Addr} {n c m d : Nat} {xs ys : List Int} {w : World}
set_option maxRecDepth 20000 in
set_option maxHeartbeats 1600000 in
theorem regPut_bad (h : Si w A n c xs) {v E : Int} (he : rErr n xs = E) (h0 : ¬ E = 0) :
    Calls Try.prog 8 #[.slice A n c, .int .i64 v] w fun e w' => e = .returned (.tuple #[.slice none 0 0, .int .i64 E]) ∧ Below w.heap.size w w' := by
  have t1 : (E != 0) = true := by simpa using h0
  have H := hide he
  clear he h0
  go_enter Try.func8, Try.ntmps8
  go_wp2_with fail
  refine (regsCheck_is h H.out).mono ?_
  rintro e w1 ⟨rfl, hb1⟩
  go_wp2_with fail
  go_ret2
  exact ⟨rfl, hb1⟩
set_option maxRecDepth 20000 in
set_option maxHeartbeats 1600000 in
theorem regPut_arg (h : Si w A n c xs) {v : Int} (he : rErr n xs = 0) (hv : ¬ (0 ≤ v ∧ v ≤ 72057594037927935)) :
    Calls Try.prog 8 #[.slice A n c, .int .i64 v] w fun e w' => e = .returned (.tuple #[.slice none 0 0, .int .i64 1]) ∧ Below w.heap.size w w' := by
  have H := hide he
  have hr := inR_no hv
  clear he hv
  go_enter Try.func8, Try.ntmps8
  go_wp2_with fail
  refine (regsCheck_is h H.out).mono ?_
  rintro e w1 ⟨rfl, hb1⟩
  go_wp2_with fail
  refine (num_any _ _).mono ?_
  rintro e w' ⟨rfl, rfl⟩
  go_wp2_with fail
  go_ret2
  exact ⟨rfl, hb1⟩
set_option maxRecDepth 20000 in
set_option maxHeartbeats 3200000 in
theorem regPut_ok (h : Si w A n c xs) {v : Nat} (he : rErr n xs = 0) (hv : v ≤ 72057594037927935) :
    Calls Try.prog 8 #[.slice A n c, .int .i64 v] w (RegRet w n (regPut n xs v)) := by
  obtain ⟨g1, g2⟩ := rErr_zero h.ilen he
  have hn16 : n ≤ 16 := by unfold rLen at g1; omega
  have hn0 : 0 < n := by unfold rLen at g1; omega
  have HL := hide h.ilen
  have hr := inR_yes (show (0 : Int) ≤ v ∧ (v : Int) ≤ 72057594037927935 by omega)
  have H := hide he
  have hkn := Nat.mod_lt v hn0
  have hx : xs[v % n]? = some (xs.getD (v % n) 0) := getD_at (by rw [HL.out]; exact hkn)
  have hxb := g2 _ (List.mem_of_getElem? hx)
  have HP := hide (show regPut n xs v = xs.set (v % n) (max (xs.getD (v % n) 0) (57 - (Lib.bitLen (v / n) : Int))) from rfl)
  have q1 : (v : Int) % (n : Int) = ((v % n : Nat) : Int) := rfl
  have q2 : (v : Int) / (n : Int) = ((v / n : Nat) : Int) := rfl
  have hq : v / n ≤ v := Nat.div_le_self _ _
  obtain ⟨k, hk⟩ : ∃ k, v % n = k := ⟨_, rfl⟩
  obtain ⟨q, hqe⟩ : ∃ q, v / n = q := ⟨_, rfl⟩
  rw [hk] at hkn hx hxb HP q1
  rw [hqe] at HP q2 hq
  clear hk hqe
  obtain ⟨x, hxe⟩ : ∃ x, xs.getD k 0 = x := ⟨_, rfl⟩
  rw [hxe] at hx hxb HP
  obtain ⟨x1, x2⟩ := hxb
  have hbl : Lib.bitLen q ≤ 56 := Lib.bitLen_le q 56 (by decide) (by omega)
  have HB := hide (bitsLen_any q (by omega))
  obtain ⟨b, hb⟩ : ∃ b, Lib.bitLen q = b := ⟨_, rfl⟩
  rw [hb] at HP hbl HB
  have HX := hide hx
  have ew : IntKind.u64.wrap (q : Int) = (q : Int) := by rw [IntKind.wrap_u64]; omega
  clear he g1 g2 hxe hb hx
  go_enter Try.func8, Try.ntmps8
  go_wp2_with fail
  refine (regsCheck_is h H.out).mono ?_
  rintro e w1 ⟨rfl, hb1⟩
  go_wp2_with fail
  refine (num_any _ _).mono ?_
  rintro e w' ⟨rfl, rfl⟩
  rw [hr]
  go_wp2_with fail
  refine (clone_ints A n c xs w1 (h.on hb1) (by omega)).mono ?_
  rintro e w2 ⟨v2, rfl, hb2, A2, c2, rfl, own2⟩
  have k2 := below_on hb1 hb2
  obtain ⟨g, rfl, hg1, hg2⟩ := own2.addr hn0
  have hcx := own2.cell (j := k) (u := .int .i64 x) (by rw [ints_getElem?, HX.out]; rfl)
  have hfx := own2.free k
  have zw := hb1.size
  go_wp2_with fail
  go_region_with (go_at_call 51; refine (HB.out _).mono ?_; rintro e w' ⟨rfl, rfl⟩)
  all_goals go_wp2_with fail
  all_goals go_ret2
  all_goals
    refine ⟨_, _, rfl, ?_, below_set (below_on hb1 (below_drewN hb2 1)) (Nat.le_trans zw hg1) _⟩
    rw [HP.out, ints_set]
    have ew2 : IntKind.i64.wrap (57 - (b : Int)) = 57 - (b : Int) := by rw [IntKind.wrap_i64]; omega
    first
      | (rw [ew2]; exact ((own2.set k _).mono zw).drew)
      | (rw [ew2]; exact (own2.drew.set k _).mono zw)
      | exact ((own2.set k _).mono zw).drew
      | exact (own2.drew.set k _).mono zw
def joinErr (n m : Nat) (xs ys : List Int) : Int := if rErr n xs ≠ 0 then rErr n xs else if rErr m ys ≠ 0 then rErr m ys else if n ≠ m then 3 else 0
theorem joinErr_1 (h : rErr n xs ≠ 0) : joinErr n m xs ys = rErr n xs := if_pos h
theorem joinErr_2 (h : rErr n xs = 0) (h2 : rErr m ys ≠ 0) : joinErr n m xs ys = rErr m ys := by unfold joinErr; rw [if_neg (by simpa using h), if_pos h2]
theorem joinErr_3 (h : rErr n xs = 0) (h2 : rErr m ys = 0) (h3 : n ≠ m) : joinErr n m xs ys = 3 := by unfold joinErr; rw [if_neg (by simpa using h), if_neg (by simpa using h2), if_pos h3]
theorem joinErr_0 (h : joinErr n m xs ys = 0) : rErr n xs = 0 ∧ rErr m ys = 0 ∧ n = m := by
  unfold joinErr at h
  by_cases h1 : rErr n xs = 0
  · rw [if_neg (by simpa using h1)] at h
    by_cases h2 : rErr m ys = 0
    · rw [if_neg (by simpa using h2)] at h
      by_cases h3 : n = m
      · exact ⟨h1, h2, h3⟩
      · rw [if_pos h3] at h; omega
    · rw [if_pos h2] at h; exact absurd h h2
  · rw [if_pos h1] at h; exact absurd h h1
set_option maxRecDepth 20000 in
set_option maxHeartbeats 3200000 in
theorem regJoin_bad (h : Si w A n c xs) (hk : Si w B m d ys) {E : Int} (he : joinErr n m xs ys = E) (h0 : ¬ E = 0) :
    Calls Try.prog 9 #[.slice A n c, .slice B m d] w fun e w' => e = .returned (.tuple #[.slice none 0 0, .int .i64 E]) ∧ Below w.heap.size w w' := by
  have hm1 := h.len_max
  have hm2 := hk.len_max
  by_cases e1 : rErr n xs = 0
  · by_cases e2 : rErr m ys = 0
    · by_cases e3 : n = m
      · exfalso
        unfold joinErr at he
        rw [if_neg (by simpa using e1), if_neg (by simpa using e2), if_neg (by simpa using e3)] at he
        exact h0 he.symm
      · rw [joinErr_3 e1 e2 e3] at he
        subst he
        have t1 : ((n : Int) != (m : Int)) = true := by simp; omega
        have H1 := hide e1
        have H2 := hide e2
        clear e1 e2 e3 h0
        go_enter Try.func9, Try.ntmps9
        go_wp2_with fail
        refine (regsCheck_is h H1.out).mono ?_
        rintro e w1 ⟨rfl, hb1⟩
        go_wp2_with fail
        refine (regsCheck_is (hk.on hb1) H2.out).mono ?_
        rintro e w2 ⟨rfl, hb2⟩
        have k2 := below_on hb1 hb2
        go_wp2_with fail
        go_ret2
        exact ⟨rfl, k2⟩
    · rw [joinErr_2 e1 e2] at he
      have t1 : (E != 0) = true := by simpa using h0
      have H1 := hide e1
      have H2 := hide he
      clear e1 e2 he h0
      go_enter Try.func9, Try.ntmps9
      go_wp2_with fail
      refine (regsCheck_is h H1.out).mono ?_
      rintro e w1 ⟨rfl, hb1⟩
      go_wp2_with fail
      refine (regsCheck_is (hk.on hb1) H2.out).mono ?_
      rintro e w2 ⟨rfl, hb2⟩
      have k2 := below_on hb1 hb2
      go_wp2_with fail
      go_ret2
      exact ⟨rfl, k2⟩
  · rw [joinErr_1 e1] at he
    have t1 : (E != 0) = true := by simpa using h0
    have H1 := hide he
    clear e1 he h0
    go_enter Try.func9, Try.ntmps9
    go_wp2_with fail
    refine (regsCheck_is h H1.out).mono ?_
    rintro e w1 ⟨rfl, hb1⟩
    go_wp2_with fail
    go_ret2
    exact ⟨rfl, hb1⟩
set_option maxRecDepth 20000 in
set_option maxHeartbeats 3200000 in
theorem regJoin_ok (h : Si w A n c xs) (hk : Si w B n d ys) (he1 : rErr n xs = 0) (he2 : rErr n ys = 0) :
    Calls Try.prog 9 #[.slice A n c, .slice B n d] w (RegRet w n (joined n xs ys)) := by
  obtain ⟨g1, g2⟩ := rErr_zero h.ilen he1
  have hn16 : n ≤ 16 := by unfold rLen at g1; omega
  have hn0 : 0 < n := by unfold rLen at g1; omega
  have HL := hide h.ilen
  have H1 := hide he1
  have H2 := hide he2
  clear he1 he2 g1 g2
  go_enter Try.func9, Try.ntmps9
  go_wp2_with fail
  refine (regsCheck_is h H1.out).mono ?_
  rintro e w1 ⟨rfl, hb1⟩
  go_wp2_with fail
  refine (regsCheck_is (hk.on hb1) H2.out).mono ?_
  rintro e w2 ⟨rfl, hb2⟩
  have k2 := below_on hb1 hb2
  go_wp2_with fail
  refine (clone_ints A n c xs w2 (h.on k2) (by omega)).mono ?_
  rintro e w3 ⟨v2, rfl, hb3, A2, c2, rfl, own3⟩
  have k3 := below_on k2 hb3
  obtain ⟨g, rfl, hg1, hg2⟩ := own3.addr hn0
  have zw := k2.size
  rw [← maxTo_zero xs ys] at own3
  go_wp2_with fail
  go_loopw [30] (fun i wr => ∃ k : Nat, k ≤ n ∧ i = .int .i64 k ∧ Own wr w2.heap.size 3 1 (some ⟨g, 0, none⟩) n c2 (ints (maxTo xs ys k)) ∧ Below w.heap.size w wr) (fun i _ => n - (intOf i).toNat)
  case atStart => exact ⟨0, Nat.zero_le _, rfl, own3, k3⟩
  case round =>
    clear own3 k3
    obtain ⟨k, hk1, rfl, own, hb⟩ := hrel
    by_cases hlt : k < n
    · obtain ⟨ad, y, rfl, hbk, hy, hc⟩ := (hk.on hb).icell hlt
      have hx : xs[k]? = some (xs.getD k 0) := getD_at (by rw [HL.out]; exact hlt)
      obtain ⟨x, hxe⟩ : ∃ x, xs.getD k 0 = x := ⟨_, rfl⟩
      rw [hxe] at hx
      have hcx := own.cell (j := k) (u := .int .i64 x) (by rw [ints_getElem?, maxTo_at (by rw [HL.out]; exact hlt), if_neg (by omega), hxe]; rfl)
      have hfx := own.free k
      have HN := hide (maxTo_next hx hy)
      clear hx hy hxe
      go_wp2_with fail
      go_roundw
      case rel =>
        refine ⟨k + 1, by omega, by go_num, ?_, below_set hb (Nat.le_trans zw hg1) _⟩
        rw [← HN.out, ints_set]
        exact own.set k _
      case measure => simp [intOf]; omega
    · obtain rfl : k = n := by omega
      go_wp2_with fail
      go_ret2
      exact ⟨_, _, rfl, own.mono zw, hb⟩
def FitRet (w : World) (b : Bool) (e : Ending) (w' : World) : Prop := e = .returned (.tuple #[.bool b, .int .i64 0]) ∧ Below w.heap.size w w'
set_option maxRecDepth 20000 in
set_option maxHeartbeats 3200000 in
theorem regFit_bad (h : Si w A n c xs) (hk : Si w B m d ys) {E : Int} (he : joinErr n m xs ys = E) (h0 : ¬ E = 0) :
    Calls Try.prog 10 #[.slice A n c, .slice B m d] w fun e w' => e = .returned (.tuple #[.bool false, .int .i64 E]) ∧ Below w.heap.size w w' := by
  have t1 : (E != 0) = true := by simpa using h0
  have H := hide he
  have H0 := hide h0
  clear he h0
  go_enter Try.func10, Try.ntmps10
  go_wp2_with fail
  refine (regJoin_bad h hk H.out H0.out).mono ?_
  rintro e w1 ⟨rfl, hb1⟩
  go_wp2_with fail
  go_ret2
  exact ⟨rfl, hb1⟩
set_option maxRecDepth 20000 in
set_option maxHeartbeats 3200000 in
theorem regFit_ok (h : Si w A n c xs) (hk : Si w B n d ys) (he1 : rErr n xs = 0) (he2 : rErr n ys = 0) :
    Calls Try.prog 10 #[.slice A n c, .slice B n d] w (FitRet w (same (joined n xs ys) ys)) := by
  have H1 := hide he1
  have H2 := hide he2
  clear he1 he2
  go_enter Try.func10, Try.ntmps10
  go_wp2_with fail
  refine (regJoin_ok h hk H1.out H2.out).mono ?_
  rintro e w1 ⟨A1, c1, rfl, own1, hb1⟩
  go_wp2_with fail
  refine (equal_ints _ _ _ _ _ _ _ _ _ own1.sl (hk.on hb1)).mono ?_
  rintro e w2 ⟨rfl, q, rfl⟩
  go_wp2_with fail
  go_ret2
  exact ⟨rfl, below_drewN hb1 _⟩
end
end Go.Proofs.Ytkliebhpdcjdgaa
