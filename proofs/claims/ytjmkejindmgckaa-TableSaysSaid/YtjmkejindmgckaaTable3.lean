/-
  table.copied: the walk. Conditions: the rows read as lists of numbers; there are at most 4, none of more than 32.
-/
import Derived.Test.YtjmkejindmgckaaTable2
import Derived.Test.YtjmkejindmgckaaOt
import Derived.Deep.RegionLaw
namespace Go.Proofs.Ytjmkejindmgckaa
open Go.RowKit

def CopyRet (w : World) (W : Int) (n : Nat) (zss : List (List Int)) (e : Ending) (w' : World) : Prop :=
  ∃ A c os, e = .returned (.agg #[.int .i64 W, .slice A n c]) ∧ Ot w' w.heap.size A n c os ∧ rows os = zss ∧ Below w.heap.size w w'
theorem rows_take {os : List Row} {k : Nat} {o : Row} (h : os[k]? = some o) : (rows os).take (k + 1) = (rows os).take k ++ [o.2.2.2] := by
  rw [List.take_add_one, rows_at h]; rfl
section
variable {W : Int} {A : Option Addr} {n c : Nat} {os : List Row} {w : World}
set_option maxRecDepth 100000 in
set_option maxHeartbeats 3200000 in
theorem copied_any (h : Ss w A n c os) (n4 : n ≤ 4) (hr : ∀ o ∈ os, o.2.1 ≤ 32) :
    Calls Try.prog 79 #[.agg #[.int .i64 W, .slice A n c]] w (CopyRet w W n (rows os)) := by
  have hm := h.s.len_max
  have HR := hide hr
  clear hr
  go_enter Try.func79, Try.ntmps79
  go_wp2_with fail
  have b3 := Blk.new ((w.alloc (.cells #[.int .i64 W, .slice A n c] 65)).alloc (.cells #[.int .i64 0, .slice none 0 0] 65)) 65 #[.int .i64 W, .slice none 0 0]
  rw [World.size_alloc, World.size_alloc] at b3
  have b2 := (Blk.new (w.alloc (.cells #[.int .i64 W, .slice A n c] 65)) 65 #[.int .i64 0, .slice none 0 0]).alloc (.cells #[.int .i64 W, .slice none 0 0] 65)
  rw [World.size_alloc] at b2
  have hbl : Below w.heap.size w (((w.alloc (.cells #[.int .i64 W, .slice A n c] 65)).alloc (.cells #[.int .i64 0, .slice none 0 0] 65)).alloc (.cells #[.int .i64 W, .slice none 0 0] 65)) := by repeat' (first | assumption | with_reducible exact Below.refl _ _ | with_reducible apply Below.drew | with_reducible apply below_drewN | with_reducible apply below_alloc | with_reducible refine below_set ?_ ?_ _ | (simp only [World.size_alloc, World.heap_drewN]; omega) | (simp; omega))
  have hz : (((w.alloc (.cells #[.int .i64 W, .slice A n c] 65)).alloc (.cells #[.int .i64 0, .slice none 0 0] 65)).alloc (.cells #[.int .i64 W, .slice none 0 0] 65)).heap.size = w.heap.size + 1 + 1 + 1 := by simp only [World.size_alloc]
  obtain ⟨w3, hw3⟩ : ∃ w3, ((w.alloc (.cells #[.int .i64 W, .slice A n c] 65)).alloc (.cells #[.int .i64 0, .slice none 0 0] 65)).alloc (.cells #[.int .i64 W, .slice none 0 0] 65) = w3 := ⟨_, rfl⟩
  rw [hw3] at b3 b2 hbl hz ⊢
  have hz3 : w.heap.size + 1 + 1 + 1 ≤ w3.heap.size := by omega
  have HZ := hide hz
  clear hw3 hz
  go_loopw [12] (fun i wr => ∃ (k : Nat) (Ao : Option Addr) (co : Nat) (os2 : List Row), k ≤ n ∧ i = .int .i64 k ∧ Ot wr (w.heap.size + 1 + 1 + 1) Ao k co os2 ∧ rows os2 = (rows os).take k ∧
    Blk wr (w.heap.size + 1 + 1) 65 #[.int .i64 W, .slice Ao k co] ∧ Blk wr (w.heap.size + 1) 65 #[.int .i64 0, .slice none 0 0] ∧ Below w.heap.size w wr ∧ w.heap.size + 1 + 1 + 1 ≤ wr.heap.size) (fun i _ => n - (intOf i).toNat)
  case atStart => exact ⟨0, none, 0, [], Nat.zero_le _, rfl, Ot.nil _ _, rfl, b3, b2, hbl, hz3⟩
  case round =>
    clear b3 b2 hbl hz3
    obtain ⟨k, Ao, co, os2, hk, rfl, hot, hro, b3, b2, hb, hzr⟩ := hrel
    by_cases hlt : k < n
    · obtain ⟨ad, ⟨Ar, nr, cr, zs⟩, rfl, hbk, ho, hc, hs⟩ := (h.on hb).cell hlt
      dsimp only at hc hs
      have hnr : nr ≤ 32 := HR.out _ (List.mem_of_getElem? ho)
      have HT := hide (rows_take ho)
      have HO := hide hro
      have HOT := hide hot
      have q1 : wr.cell? ⟨w.heap.size + 1 + 1, 1, none⟩ = some (.slice Ao k co) := b3.at_ (i := 1) rfl
      have u1 : wr.frozen? ⟨w.heap.size + 1 + 1, 1, none⟩ = false := b3.free 1
      have HB3 := hide b3
      have HB2 := hide b2
      have gl : w.heap.size + 1 + 1 < wr.heap.size := by omega
      clear ho hro hot b3 b2
      go_wp2_with fail
      go_region_law
        (first
          | (go_simp; go_at_call 92; refine (clone_ints Ar nr cr zs _ hs.drew (by omega)).mono ?_; rintro e w4 ⟨v4, rfl, hb4, A4, c4, rfl, own4⟩; have hk4 : Below wr.heap.size wr w4 := Below.trans (by repeat' (first | assumption | with_reducible exact Below.refl _ _ | with_reducible apply Below.drew | (with_reducible refine Below.alloc ?_ ?_ _) | (simp only [World.size_alloc, World.drew]; omega) | (simp; omega))) hb4; have ot4 := HOT.out.below hk4 (Nat.le_refl _); have q4 := (hk4.cell (p := ⟨w.heap.size + 1 + 1, 1, none⟩) gl).trans q1; have u4 := (hk4.frozen (p := ⟨w.heap.size + 1 + 1, 1, none⟩) gl).trans u1; have z4 : w.heap.size + 1 + 1 + 1 ≤ w4.heap.size := Nat.le_trans hzr hk4.size; have gl4 : w.heap.size + 1 + 1 < w4.heap.size := z4)
          | (refine step_append_one T_rows (base := w.heap.size + 1 + 1 + 1) (A := Ao) (xs := os2.map rowV) (v := .slice A4 nr c4) (by rfl) (.tmp 17) (.tmp 20) (by rfl) (by rfl) (by rfl) ?_ ?_ rfl ?_ ?_ ?_ ?_; (with_reducible exact ot4.s.alloc _); (with_reducible exact at_new _ _); (simp only [maxLen]; omega); omega; (simp only [World.drew, World.size_alloc]; omega); intro A5 c5 w5 ap; have hk5 := ap.below; have q5 := (hk5.cell (p := ⟨w.heap.size + 1 + 1, 1, none⟩) (Nat.lt_succ_self _)).trans ((World.cell?_alloc_lt w4 _ ⟨w.heap.size + 1 + 1, 1, none⟩ gl4).trans q4); have u5 := (hk5.frozen (p := ⟨w.heap.size + 1 + 1, 1, none⟩) (Nat.lt_succ_self _)).trans ((World.frozen?_alloc_past _ _ _ gl4).trans u4); have z5 := ap.below.size))
      all_goals
        have ot5 := (HOT.out.below hk4 (Nat.le_refl _) |>.alloc (.cells #[.slice A4 nr c4] 22)).push (o := (A4, nr, c4, zs)) (W := wr.heap.size) (fun p hp g hg => HOT.out.row_lt p hp g hg) (own4.alloc _) hzr ap
        have b35 := (((HB3.out.below hk4 gl).alloc (.cells #[.slice A4 nr c4] 22)).below hk5 (Nat.lt_succ_self _)).set 1 (.slice A5 (k + 1) c5)
        have b25 := (((HB2.out.below hk4 (by omega)).alloc (.cells #[.slice A4 nr c4] 22)).below hk5 (by omega)).far (p := ⟨w.heap.size + 1 + 1, 1, none⟩) (by dsimp only; omega) (.slice A5 (k + 1) c5)
        have hb5 : Below w.heap.size w w5 := (below_on hb hk4).trans (Below.trans (Below.alloc (Below.refl _ _) (by have := hk4.size; have := hb.size; omega) _) (hk5.mono (by omega)))
        have OT5 := hide ot5
        have B35 := hide b35
        have B25 := hide b25
        have HB5 := hide hb5
        clear ot5 b35 b25 hb5 hk4 hb4 own4 ot4 ap hk5
        have z5' : w.heap.size + 1 + 1 + 1 ≤ w5.heap.size := by simp only [World.size_alloc] at z5; omega
        clear z5
        go_wp2_with fail
        go_roundw
        case rel =>
          refine ⟨k + 1, A5, c5, os2 ++ [(A4, nr, c4, zs)], by omega, by go_num, OT5.out.low (p := ⟨w.heap.size + 1 + 1, 1, none⟩) (Nat.lt_succ_self _) _, ?_, ?_, B25.out, HB5.out.setCell (p := ⟨w.heap.size + 1 + 1, 1, none⟩) (by dsimp only; omega) _, by simp; omega⟩
          · rw [HT.out, ← HO.out]
            simp [rows]
          · have hb := B35.out
            simpa using hb
        case measure => simp [intOf]; omega
    · obtain rfl : k = n := by omega
      have q0 : wr.cell? ⟨w.heap.size + 1 + 1, 0, none⟩ = some (.int .i64 W) := b3.at_ (i := 0) rfl
      have q1 : wr.cell? ⟨w.heap.size + 1 + 1, 1, none⟩ = some (.slice Ao k co) := b3.at_ (i := 1) rfl
      have r0 : wr.cell? ⟨w.heap.size + 1, 0, none⟩ = some (.int .i64 0) := b2.at_ (i := 0) rfl
      have r1 : wr.cell? ⟨w.heap.size + 1, 1, none⟩ = some (.slice none 0 0) := b2.at_ (i := 1) rfl
      have f0 := b2.free 0
      have f1 := b2.free 1
      have p0 := (b2.set 0 (.int .i64 W))
      have p1 := p0.set 1 (.slice Ao k co)
      have p1' : Blk ((wr.setCell ⟨w.heap.size + 1, 0, none⟩ (.int .i64 W)).setCell ⟨w.heap.size + 1, 1, none⟩ (.slice Ao k co)) (w.heap.size + 1) 65 #[.int .i64 W, .slice Ao k co] := by simpa using p1
      have s0 := p1'.at_ (i := 0) rfl
      have s1 := p1'.at_ (i := 1) rfl
      have S0 := hide s0
      have S1 := hide s1
      clear p0 p1 p1' s0 s1
      have OT := hide hot
      clear hot
      go_wp2_with fail
      have p0 := S0.out
      have p1 := S1.out
      refine bodyPost_ret (v := .agg #[.int .i64 W, .slice Ao k co]) (by simp [results, Try.results79, go_sem, p0, p1]) rfl ⟨Ao, co, os2, rfl, ((OT.out.low (p := ⟨w.heap.size + 1, 0, none⟩) (by dsimp only; omega) _).low (p := ⟨w.heap.size + 1, 1, none⟩) (by dsimp only; omega) _).mono (by omega), ?_, ?_⟩
      · rw [hro]
        exact List.take_of_length_le (by rw [rows, List.length_map, h.len]; exact Nat.le_refl _)
      · exact (hb.setCell (p := ⟨w.heap.size + 1, 0, none⟩) (by dsimp only; omega) _).setCell (p := ⟨w.heap.size + 1, 1, none⟩) (by dsimp only; omega) _
end
end Go.Proofs.Ytjmkejindmgckaa
