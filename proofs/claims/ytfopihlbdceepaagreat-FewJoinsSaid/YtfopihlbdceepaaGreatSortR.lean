/-
  sort.Sort(sort.Reverse(sort.IntSlice(..))): the walk. Conditions: a row of the call's own, of fewer than fifty numbers.
-/
import Derived.Test.YtfopihlbdceepaaGreatPdq
import Derived.Shelf.Small.Bits
import Derived.Ground.NamesProg
namespace Go.Proofs.YtfopihlbdceepaaGreat
open Go.RowKit Go.Shelf

def laysLenR_ren : Go.Shelf.Ren := ⟨fun | 125 => 30 | 128 => 50 | 129 => 51 | n => n, fun | 46 => 63 | 3 => 3 | 51 => 91 | 53 => 93 | 4 => 4 | 5 => 5 | 9 => 9 | n => n, fun | n => n⟩
theorem laysLenR : Go.Proofs.Lays.n125 Tryz.prog laysLenR_ren := {
  mixed := by kernel_rfl
  f125 := Tryz.func30.trans (congrArg some (by kernel_rfl))
  f128 := Tryz.func50.trans (congrArg some (by kernel_rfl))
  f129 := Tryz.func51.trans (congrArg some (by kernel_rfl))
  t3 := Tryz.underlying3
  a3 := Tryz.isAgg3
  z3 := Tryz.sizeOf3
  v3 := Tryz.zeroValue3
  t4 := Tryz.underlying4
  a4 := Tryz.isAgg4
  z4 := Tryz.sizeOf4
  v4 := Tryz.zeroValue4
  t5 := Tryz.underlying5
  a5 := Tryz.isAgg5
  z5 := Tryz.sizeOf5
  v5 := Tryz.zeroValue5
  t9 := Tryz.underlying9
  a9 := Tryz.isAgg9
  z9 := Tryz.sizeOf9
  v9 := Tryz.zeroValue9
  t46 := Tryz.underlying63
  a46 := Tryz.isAgg63
  z46 := Tryz.sizeOf63
  v46 := Tryz.zeroValue63
  t51 := Tryz.underlying91
  a51 := Tryz.isAgg91
  z51 := Tryz.sizeOf91
  v51 := Tryz.zeroValue91
  t53 := Tryz.underlying93
  a53 := Tryz.isAgg93
  z53 := Tryz.sizeOf93
  v53 := Tryz.zeroValue93 }
set_option maxHeartbeats 1600000 in
theorem reverse_any (T : TypeId) (V : Value) (W : World) : Calls Tryz.prog 23 #[.iface T V] W fun e w' => e = .returned (.iface 76 (.pointer (some ⟨W.heap.size, 0, none⟩))) ∧ w' = W.alloc (.cells #[.iface T V] 78) := by
  have hb : ∀ w, (Instr.build 78 #[(0, .iface T V)]).run Tryz.prog w = .ok (.agg #[.iface T V]) w := fun w => run_build w 78 _ _ (by kernel_rfl)
  go_enter Tryz.func23, Tryz.ntmps23
  go_wp2_with fail
  go_ret
  exact ⟨rfl, rfl⟩
abbrev Down (zs : List Int) : Prop := zs.Pairwise fun x y => y ≤ x
section
variable {W : World} {b N c base : Nat} {A : Option Addr} {zs : List Int}
set_option maxRecDepth 100000 in
set_option maxHeartbeats 3200000 in
theorem sortR_any (box : Blk W b 78 #[.iface 55 (.slice A N c)]) (own : Own W base 3 1 A N c (ints zs)) (hN : N < 50) :
    Calls Tryz.prog 22 #[.iface 76 (.pointer (some ⟨b, 0, none⟩))] W fun r w' => r = .returned (.tuple #[]) ∧ ∃ zs', zs'.Perm zs ∧ Down zs' ∧ Sl w' w'.heap.size 1 A N c (ints zs') ∧ W.grownBy w' (blockOf A) := by
  have hl : zs.length = N := own.sl.ilen
  have eN := entersF Tryz.func112 (by kernel_rfl) rfl
  have cW : W.cell? ⟨b, 0, none⟩ = some (.iface 55 (.slice A N c)) := box.at_ rfl
  have mN := fun (W' : World) (h' : W'.cell? ⟨b, 0, none⟩ = some (.iface 55 (.slice A N c))) => n_len h'
  have CN := hide (fun W => isl_len (W := W) (N := N) (c := c) A)
  by_cases h1 : N ≤ 1
  · have HO := hide own
    have HD := hide (show Down zs by
      unfold Down
      rcases zs with _ | ⟨x, _ | ⟨y, zs⟩⟩
      · exact List.Pairwise.nil
      · exact List.pairwise_singleton _ _
      · simp at hl; omega)
    have t0 : (N : Int) ≤ 1 := by omega
    clear own hl box
    go_enter Tryz.func22, Tryz.ntmps22
    go_wp2_with fail
    refine (CN.out _).mono ?_
    rintro r w1 ⟨rfl, rfl⟩
    go_wp2_with fail
    refine bodyPost_ret (results_none rfl _ _ _) rfl ?_
    exact ⟨rfl, zs, List.Perm.refl _, HD.out, HO.out.sl, World.grownBy.refl _ _⟩
  · obtain ⟨g, rfl, hg, hgl⟩ := own.addr (by omega)
    have hR : RA W b g N c base zs.toArray := ⟨⟨box, by simpa using own⟩, by simpa using hl⟩
    have hlim : Lib.bitLen N ≤ 62 := Lib.bitLen_le N 62 (by omega) (by omega)
    have CB := hide (fun w => Any.bits_Len laysLenR (N : Int) w (by omega) (by omega))
    rw [Int.toNat_natCast] at CB
    have CP := hide (pdq_any hN (N - 0) (W := W) (d := zs.toArray) (a := 0) (e := N) (lim := Lib.bitLen N) rfl hR (Nat.zero_le _) (Nat.le_refl _) (by omega) (Or.inl rfl))
    have t0 : ¬ (N : Int) ≤ 1 := by omega
    have HL := hide hl
    have HC := hide own.sl
    clear hR own box hl
    generalize Lib.bitLen N = LM at CB CP hlim
    go_enter Tryz.func22, Tryz.ntmps22
    go_wp2_with fail
    refine (CN.out _).mono ?_
    rintro r w1 ⟨rfl, rfl⟩
    go_wp2_with fail
    refine (CB.out _).mono ?_
    rintro r w1 ⟨rfl, rfl⟩
    go_wp2_with fail
    refine CP.out.mono ?_
    rintro r w2 ⟨rfl, d', h2, ⟨hp, hs⟩, g2⟩
    have HF := hide (show d'.toList.Perm zs by
      have h3 := hp.2.2
      have hz : d'.size = zs.length := by simpa using hp.1
      have h4 := HL.out
      simp at h3
      rwa [List.take_of_length_le (by rw [Array.length_toList]; omega), List.take_of_length_le (by omega)] at h3)
    have HD := hide (show Down d'.toList by
      rw [Down, List.pairwise_iff_getElem]
      intro i j hi hj hij
      have hz : d'.size = N := h2.size
      rw [Array.length_toList] at hi hj
      have := hs i j (Nat.zero_le _) hij (by omega)
      rw [getElem!_pos d' j hj, getElem!_pos d' i hi] at this
      simp only [ltD, decide_eq_false_iff_not] at this
      simp only [Array.getElem_toList]
      omega)
    have HO := hide h2.rs.own.sl
    have G2 := hide g2
    clear CP h2 hp hs g2
    go_wp2_with fail
    go_end0
    exact ⟨rfl, d'.toList, HF.out, HD.out, HO.out, G2.out⟩
end
end Go.Proofs.YtfopihlbdceepaaGreat
