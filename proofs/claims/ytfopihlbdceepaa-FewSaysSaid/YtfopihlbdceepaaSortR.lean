/-
  sort.Sort(sort.Reverse(sort.IntSlice(..))): the walk. Conditions: a row of the call's own, of fewer than fifty numbers.
-/
import Derived.Test.YtfopihlbdceepaaPdq
import Derived.Shelf.Small.Bits
import Derived.Ground.NamesProg
namespace Go.Proofs.Ytfopihlbdceepaa
open Go.RowKit Go.Shelf

def laysLenR_ren : Go.Shelf.Ren := ⟨fun | 125 => 60 | 128 => 80 | 129 => 81 | n => n, fun | 46 => 100 | 3 => 3 | 51 => 118 | 53 => 120 | 4 => 4 | 5 => 5 | 9 => 9 | n => n, fun | n => n⟩
theorem laysLenR : Go.Proofs.Lays.n125 Try.prog laysLenR_ren := {
  mixed := by kernel_rfl
  f125 := Try.func60.trans (congrArg some (by kernel_rfl))
  f128 := Try.func80.trans (congrArg some (by kernel_rfl))
  f129 := Try.func81.trans (congrArg some (by kernel_rfl))
  t3 := Try.underlying3
  a3 := Try.isAgg3
  z3 := Try.sizeOf3
  v3 := Try.zeroValue3
  t4 := Try.underlying4
  a4 := Try.isAgg4
  z4 := Try.sizeOf4
  v4 := Try.zeroValue4
  t5 := Try.underlying5
  a5 := Try.isAgg5
  z5 := Try.sizeOf5
  v5 := Try.zeroValue5
  t9 := Try.underlying9
  a9 := Try.isAgg9
  z9 := Try.sizeOf9
  v9 := Try.zeroValue9
  t46 := Try.underlying100
  a46 := Try.isAgg100
  z46 := Try.sizeOf100
  v46 := Try.zeroValue100
  t51 := Try.underlying118
  a51 := Try.isAgg118
  z51 := Try.sizeOf118
  v51 := Try.zeroValue118
  t53 := Try.underlying120
  a53 := Try.isAgg120
  z53 := Try.sizeOf120
  v53 := Try.zeroValue120 }
set_option maxHeartbeats 1600000 in
theorem reverse_any (T : TypeId) (V : Value) (W : World) : Calls Try.prog 43 #[.iface T V] W fun e w' => e = .returned (.iface 108 (.pointer (some ⟨W.heap.size, 0, none⟩))) ∧ w' = W.alloc (.cells #[.iface T V] 110) := by
  have hb : ∀ w, (Instr.build 110 #[(0, .iface T V)]).run Try.prog w = .ok (.agg #[.iface T V]) w := fun w => run_build w 110 _ _ (by kernel_rfl)
  go_enter Try.func43, Try.ntmps43
  go_wp2_with fail
  go_ret
  exact ⟨rfl, rfl⟩
abbrev Down (zs : List Int) : Prop := zs.Pairwise fun x y => y ≤ x
section
variable {W : World} {b N c base : Nat} {A : Option Addr} {zs : List Int}
set_option maxRecDepth 100000 in
set_option maxHeartbeats 3200000 in
theorem sortR_any (box : Blk W b 110 #[.iface 78 (.slice A N c)]) (own : Own W base 3 1 A N c (ints zs)) (hN : N < 50) :
    Calls Try.prog 42 #[.iface 108 (.pointer (some ⟨b, 0, none⟩))] W fun r w' => r = .returned (.tuple #[]) ∧ ∃ zs', zs'.Perm zs ∧ Down zs' ∧ Sl w' w'.heap.size 1 A N c (ints zs') ∧ W.grownBy w' (blockOf A) := by
  have hl : zs.length = N := own.sl.ilen
  have eN := entersF Try.func131 (by kernel_rfl) rfl
  have cW : W.cell? ⟨b, 0, none⟩ = some (.iface 78 (.slice A N c)) := box.at_ rfl
  have mN := fun (W' : World) (h' : W'.cell? ⟨b, 0, none⟩ = some (.iface 78 (.slice A N c))) => n_len h'
  have CN := hide (fun W => isl_len (W := W) (N := N) (c := c) A)
  by_cases h1 : N ≤ 1
  · have HO := hide own
    have HD := hide (show Down zs by
      unfold Down
      rcases zs with _ | ⟨x, _ | ⟨y, zs⟩⟩
      · exact List.Pairwise.nil
      · exact List.pairwise_singleton _ _
      · simp at hl; omega)
    have t0 : (N : Int) ≤ 1 := by omega
    clear own hl box
    go_enter Try.func42, Try.ntmps42
    go_wp2_with fail
    refine (CN.out _).mono ?_
    rintro r w1 ⟨rfl, rfl⟩
    go_wp2_with fail
    refine bodyPost_ret (results_none rfl _ _ _) rfl ?_
    exact ⟨rfl, zs, List.Perm.refl _, HD.out, HO.out.sl, World.grownBy.refl _ _⟩
  · obtain ⟨g, rfl, hg, hgl⟩ := own.addr (by omega)
    have hR : RA W b g N c base zs.toArray := ⟨⟨box, by simpa using own⟩, by simpa using hl⟩
    have hlim : Lib.bitLen N ≤ 62 := Lib.bitLen_le N 62 (by omega) (by omega)
    have CB := hide (fun w => Any.bits_Len laysLenR (N : Int) w (by omega) (by omega))
    rw [Int.toNat_natCast] at CB
    have CP := hide (pdq_any hN (N - 0) (W := W) (d := zs.toArray) (a := 0) (e := N) (lim := Lib.bitLen N) rfl hR (Nat.zero_le _) (Nat.le_refl _) (by omega) (Or.inl rfl))
    have t0 : ¬ (N : Int) ≤ 1 := by omega
    have HL := hide hl
    have HC := hide own.sl
    clear hR own box hl
    generalize Lib.bitLen N = LM at CB CP hlim
    go_enter Try.func42, Try.ntmps42
    go_wp2_with fail
    refine (CN.out _).mono ?_
    rintro r w1 ⟨rfl, rfl⟩
    go_wp2_with fail
    refine (CB.out _).mono ?_
    rintro r w1 ⟨rfl, rfl⟩
    go_wp2_with fail
    refine CP.out.mono ?_
    rintro r w2 ⟨rfl, d', h2, ⟨hp, hs⟩, g2⟩
    have HF := hide (show d'.toList.Perm zs by
      have h3 := hp.2.2
      have hz : d'.size = zs.length := by simpa using hp.1
      have h4 := HL.out
      simp at h3
      rwa [List.take_of_length_le (by rw [Array.length_toList]; omega), List.take_of_length_le (by omega)] at h3)
    have HD := hide (show Down d'.toList by
      rw [Down, List.pairwise_iff_getElem]
      intro i j hi hj hij
      have hz : d'.size = N := h2.size
      rw [Array.length_toList] at hi hj
      have := hs i j (Nat.zero_le _) hij (by omega)
      rw [getElem!_pos d' j hj, getElem!_pos d' i hi] at this
      simp only [ltD, decide_eq_false_iff_not] at this
      simp only [Array.getElem_toList]
      omega)
    have HO := hide h2.rs.own.sl
    have G2 := hide g2
    clear CP h2 hp hs g2
    go_wp2_with fail
    go_end0
    exact ⟨rfl, d'.toList, HF.out, HD.out, HO.out, G2.out⟩
end
end Go.Proofs.Ytfopihlbdceepaa
