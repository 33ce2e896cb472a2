/-
  bloom.Join where the filters may be joined: the walk. Conditions: the bits read as lists.
-/
import Derived.Test.YtjmkejindmgckaaBloom6
import Derived.RegionTactic
import Derived.BigRegion
namespace Go.Proofs.Ytjmkejindmgckaa
open Go.RowKit

def orTo (xs ys : List Bool) (k : Nat) : List Bool := (List.range xs.length).map fun (i : Nat) => if i < k then (xs.getD i false || ys.getD i false) else xs.getD i false
theorem orTo_len (xs ys : List Bool) (k : Nat) : (orTo xs ys k).length = xs.length := by simp [orTo]
theorem orTo_at {xs ys : List Bool} {k i : Nat} (h : i < xs.length) : (orTo xs ys k)[i]? = some (if i < k then (xs.getD i false || ys.getD i false) else xs.getD i false) := by simp [orTo, h]
theorem getB {xs : List Bool} {i : Nat} (h : i < xs.length) : xs[i]? = some (xs.getD i false) := by rw [List.getD, List.getElem?_eq_getElem h]; rfl
theorem getB_of {xs : List Bool} {i : Nat} {x : Bool} (h : xs[i]? = some x) : xs.getD i false = x := by rw [List.getD, h]; rfl
theorem orTo_zero (xs ys : List Bool) : orTo xs ys 0 = xs := by
  apply List.ext_getElem?
  intro i
  by_cases h : i < xs.length
  · rw [orTo_at h, if_neg (by omega), getB h]
  · rw [List.getElem?_eq_none (by rw [orTo_len]; omega), List.getElem?_eq_none (by omega)]
theorem orTo_next {xs ys : List Bool} {k : Nat} {x y : Bool} (hx : xs[k]? = some x) (hy : ys[k]? = some y) : (orTo xs ys k).set k (x || y) = orTo xs ys (k + 1) := by
  have hk := (List.getElem?_eq_some_iff.1 hx).1
  apply List.ext_getElem?
  intro m
  by_cases hm : m < xs.length
  · rw [orTo_at hm, List.getElem?_set, orTo_at hm, orTo_len]
    by_cases e : k = m
    · subst e
      rw [if_pos rfl, if_pos hk, if_pos (Nat.lt_succ_self _), getB_of hx, getB_of hy]
    · rw [if_neg e]
      by_cases h2 : m < k
      · rw [if_pos h2, if_pos (by omega)]
      · rw [if_neg h2, if_neg (by omega)]
  · rw [List.getElem?_eq_none (by rw [List.length_set, orTo_len]; omega), List.getElem?_eq_none (by rw [orTo_len]; omega)]
set_option maxRecDepth 100000 in
set_option maxHeartbeats 3200000 in
theorem bloomJoin_ok {A B : Option Addr} {n c m d : Nat} {xs ys : List Bool} {w : World} (h : Sb w A n c xs) (hk : Sb w B n d ys) (he : fltErr n m n = 0) :
    Calls Try.prog 22 #[.agg #[.int .i64 (n : Int), .int .i64 (m : Int), .slice A n c], .agg #[.int .i64 (n : Int), .int .i64 (m : Int), .slice B n d]] w (PutRet w n m n (orTo xs ys n)) := by
  obtain ⟨s1, s2, k1, k2, _⟩ := fltErr_zero he
  have n1 : 1 ≤ n := by omega
  have n2 : n ≤ 256 := by omega
  have H := hide he
  have HXL := hide h.blen
  have b1 := Blk.new ((w.alloc (.cells #[.int .i64 (n : Int), .int .i64 (m : Int), .slice A n c] 42)).alloc (.cells #[.int .i64 (n : Int), .int .i64 (m : Int), .slice B n d] 42)) 42 #[.int .i64 0, .int .i64 0, .slice none 0 0]
  rw [World.size_alloc, World.size_alloc] at b1
  have bg := (Blk.new (w.alloc (.cells #[.int .i64 (n : Int), .int .i64 (m : Int), .slice A n c] 42)) 42 #[.int .i64 (n : Int), .int .i64 (m : Int), .slice B n d]).alloc (.cells #[.int .i64 0, .int .i64 0, .slice none 0 0] 42)
  rw [World.size_alloc] at bg
  have bf := ((Blk.new w 42 #[.int .i64 (n : Int), .int .i64 (m : Int), .slice A n c]).alloc (.cells #[.int .i64 (n : Int), .int .i64 (m : Int), .slice B n d] 42)).alloc (.cells #[.int .i64 0, .int .i64 0, .slice none 0 0] 42)
  have HB1 := hide b1
  have HBG := hide bg
  have HBF := hide bf
  clear b1 bg bf he s1 s2 k1 k2
  go_enter Try.func22, Try.ntmps22
  go_wp2_with fail
  refine (bloomCheck_is h.len_max H.out).mono ?_
  rintro e w1 ⟨rfl, hb1⟩
  have bg1 := HBG.out.below hb1 HBG.out.lt
  have bf1 := HBF.out.below hb1 HBF.out.lt
  have br1 := HB1.out.below hb1 HB1.out.lt
  have g0 : w1.cell? ⟨w.heap.size + 1, 0, none⟩ = some (.int .i64 (n : Int)) := bg1.at_ (i := 0) rfl
  have g1 : w1.cell? ⟨w.heap.size + 1, 1, none⟩ = some (.int .i64 (m : Int)) := bg1.at_ (i := 1) rfl
  have g2 : w1.cell? ⟨w.heap.size + 1, 2, none⟩ = some (.slice B n d) := bg1.at_ (i := 2) rfl
  have hw1 : Below w.heap.size w w1 := below_on (by repeat' (first | assumption | with_reducible exact Below.refl _ _ | with_reducible apply Below.drew | with_reducible apply below_drewN | with_reducible apply below_alloc | with_reducible refine below_set ?_ ?_ _ | (simp only [World.size_alloc, World.heap_drewN]; omega) | (simp; omega))) hb1
  have z1 := hb1.size
  simp only [World.size_alloc] at z1
  go_wp2_with fail
  refine (bloomCheck_is h.len_max H.out).mono ?_
  rintro e w2 ⟨rfl, hb2⟩
  have hw2 := below_on hw1 hb2
  have bg2 := bg1.below hb2 bg1.lt
  have bf2 := bf1.below hb2 bf1.lt
  have br2 := br1.below hb2 br1.lt
  have g0' : w2.cell? ⟨w.heap.size + 1, 0, none⟩ = some (.int .i64 (n : Int)) := bg2.at_ (i := 0) rfl
  have g1' : w2.cell? ⟨w.heap.size + 1, 1, none⟩ = some (.int .i64 (m : Int)) := bg2.at_ (i := 1) rfl
  have q0 : w2.cell? ⟨w.heap.size, 0, none⟩ = some (.int .i64 (n : Int)) := bf2.at_ (i := 0) rfl
  have q1 : w2.cell? ⟨w.heap.size, 1, none⟩ = some (.int .i64 (m : Int)) := bf2.at_ (i := 1) rfl
  have q2 : w2.cell? ⟨w.heap.size, 2, none⟩ = some (.slice A n c) := bf2.at_ (i := 2) rfl
  have z2 := hb2.size
  have tn : ((n : Int) != (n : Int)) = false := by simp
  have tm : ((m : Int) != (m : Int)) = false := by simp
  go_wp2_with fail
  refine (clone_bools A n c xs w2 (h.on hw2) (by omega)).mono ?_
  rintro e w3 ⟨v3, rfl, hb3, A3, c3, rfl, own3⟩
  have hw3 := below_on hw2 hb3
  have bg3 := bg2.below hb3 bg2.lt
  have bf3 := bf2.below hb3 bf2.lt
  have br3 := br2.below hb3 br2.lt
  obtain ⟨ga, rfl, hga1, hga2⟩ := own3.addr n1
  have r0 : w3.cell? ⟨w.heap.size, 2, none⟩ = some (.slice A n c) := bf3.at_ (i := 2) rfl
  have rf := bf3.free 2
  have s0 : w3.cell? ⟨w.heap.size + 1, 2, none⟩ = some (.slice B n d) := bg3.at_ (i := 2) rfl
  have bf4 : Blk (w3.setCell ⟨w.heap.size, 2, none⟩ (.slice (some ⟨ga, 0, none⟩) n c3)) w.heap.size 42 #[.int .i64 (n : Int), .int .i64 (m : Int), .slice (some ⟨ga, 0, none⟩) n c3] := by
    have hb := bf3.set 2 (.slice (some ⟨ga, 0, none⟩) n c3)
    simpa using hb
  have br4 := br3.far (p := ⟨w.heap.size, 2, none⟩) (by dsimp only; omega) (.slice (some ⟨ga, 0, none⟩) n c3)
  have own4 := own3.low (p := ⟨w.heap.size, 2, none⟩) (by dsimp only; omega) (.slice (some ⟨ga, 0, none⟩) n c3)
  have hw4 := below_set hw3 (p := ⟨w.heap.size, 2, none⟩) (Nat.le_refl _) (.slice (some ⟨ga, 0, none⟩) n c3)
  rw [← orTo_zero xs ys] at own4
  have HB4 := hide bf4
  have HR4 := hide br4
  have HO4 := hide own4
  have HW4 := hide hw4
  clear bf4 br4 own4 hw4 g0 g1 g2 g0' g1' q0 q1 q2 bg1 bg2 bg3 bf1 bf2 bf3 br1 br2 br3
  go_wp2_with fail
  go_loopw [42] (fun vi wr => ∃ j : Nat, j ≤ n ∧ vi = .int .i64 j ∧ Own wr w2.heap.size 4 1 (some ⟨ga, 0, none⟩) n c3 (bools (orTo xs ys j)) ∧ Blk wr w.heap.size 42 #[.int .i64 (n : Int), .int .i64 (m : Int), .slice (some ⟨ga, 0, none⟩) n c3] ∧
    Blk wr (w.heap.size + 1 + 1) 42 #[.int .i64 0, .int .i64 0, .slice none 0 0] ∧ Below w.heap.size w wr) (fun i _ => n - (intOf i).toNat)
  case atStart => exact ⟨0, Nat.zero_le _, rfl, HO4.out, HB4.out, HR4.out, HW4.out⟩
  case round =>
    clear r0 rf s0
    obtain ⟨j, hj, rfl, own, bf, br, hb⟩ := hrel
    by_cases hlt : j < n
    · obtain ⟨ad, y, rfl, hbk, hy, hc⟩ := (hk.on hb).bcell hlt
      have hx : xs[j]? = some (xs.getD j false) := getB (by rw [HXL.out]; exact hlt)
      obtain ⟨x, hxe⟩ : ∃ x, xs.getD j false = x := ⟨_, rfl⟩
      rw [hxe] at hx
      have HN := hide (orTo_next hx hy)
      have hcx := own.cell (bools_at (show (orTo xs ys j)[j]? = some x by rw [orTo_at (by rw [HXL.out]; exact hlt), if_neg (by omega), hxe]))
      have hfx := own.free j
      have q2 : wr.cell? ⟨w.heap.size, 2, none⟩ = some (.slice (some ⟨ga, 0, none⟩) n c3) := bf.at_ (i := 2) rfl
      clear hx hy hxe
      cases x
      all_goals
        cases y
        all_goals
          go_wp2_with fail
          go_region
          all_goals go_wp2_with fail
          all_goals
            refine ⟨⟨j + 1, by omega, by go_num, ?_, (bf.far (p := ⟨ga, j, none⟩) (by dsimp only; omega) _).drew, (br.far (p := ⟨ga, j, none⟩) (by dsimp only; omega) _).drew, (below_set hb (p := ⟨ga, j, none⟩) (by dsimp only; omega) _).drew⟩, by simp [intOf]; omega⟩
            rw [← HN.out, bools_set]
            exact (own.set j _).drew
    · obtain rfl : j = n := by omega
      have c0 : wr.cell? ⟨w.heap.size, 0, none⟩ = some (.int .i64 (j : Int)) := bf.at_ (i := 0) rfl
      have c1 : wr.cell? ⟨w.heap.size, 1, none⟩ = some (.int .i64 (m : Int)) := bf.at_ (i := 1) rfl
      have c2' : wr.cell? ⟨w.heap.size, 2, none⟩ = some (.slice (some ⟨ga, 0, none⟩) j c3) := bf.at_ (i := 2) rfl
      have p0 : wr.cell? ⟨w.heap.size + 1 + 1, 0, none⟩ = some (.int .i64 0) := br.at_ (i := 0) rfl
      have p1 : wr.cell? ⟨w.heap.size + 1 + 1, 1, none⟩ = some (.int .i64 0) := br.at_ (i := 1) rfl
      have p2 : wr.cell? ⟨w.heap.size + 1 + 1, 2, none⟩ = some (.slice none 0 0) := br.at_ (i := 2) rfl
      have f0 := br.free 0
      have f1 := br.free 1
      have f2 := br.free 2
      go_wp2_with fail
      refine bodyPost_ret (v := .tuple #[.agg #[.int .i64 (j : Int), .int .i64 (m : Int), .slice (some ⟨ga, 0, none⟩) j c3], .int .i64 0]) (by simp [results, Try.results22, go_sem, p0, p1, p2]) rfl ⟨_, _, rfl, ?_, ?_⟩
      · exact ((((own.low (by dsimp only; omega) _).low (by dsimp only; omega) _).low (by dsimp only; omega) _).mono (by omega))
      · repeat' (first | assumption | with_reducible exact Below.refl _ _ | with_reducible apply Below.drew | with_reducible apply below_drewN | with_reducible apply below_alloc | with_reducible refine below_set ?_ ?_ _ | (simp only [World.size_alloc, World.heap_drewN]; omega) | (simp; omega))
end Go.Proofs.Ytjmkejindmgckaa
