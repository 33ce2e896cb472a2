/-
  sort.breakPatterns over the reversed row: the walk. Conditions: the row; eight places at least.
-/
import Derived.Test.YtfopihlbdceepaaPins
import Derived.Shelf.SlSortFunc.Xorshift
import Derived.Laws.Bits64b
import Derived.Deep.LoopGhost
namespace Go.Proofs.Ytfopihlbdceepaa
open Go.RowKit Go.Shelf

def xs36_ren : Go.Shelf.Ren := ⟨fun | 36 => 105 | n => n, fun | 66 => 144 | 51 => 120 | 0 => 0 | 60 => 136 | 41 => 100 | n => n, fun | n => n⟩
theorem xs36 : Go.Proofs.LaysGg.n36 Try.prog xs36_ren := {
  mixed := by kernel_rfl
  f36 := Try.func105.trans (congrArg some (by kernel_rfl))
  t0 := Try.underlying0
  a0 := Try.isAgg0
  z0 := Try.sizeOf0
  v0 := Try.zeroValue0
  i0 := by kernel_rfl
  t41 := Try.underlying100
  a41 := Try.isAgg100
  z41 := Try.sizeOf100
  v41 := Try.zeroValue100
  i41 := by kernel_rfl
  t51 := Try.underlying120
  a51 := Try.isAgg120
  z51 := Try.sizeOf120
  v51 := Try.zeroValue120
  i51 := by kernel_rfl
  t60 := Try.underlying136
  a60 := Try.isAgg136
  z60 := Try.sizeOf136
  v60 := Try.zeroValue136
  i60 := by kernel_rfl
  t66 := Try.underlying144
  a66 := Try.isAgg144
  z66 := Try.sizeOf144
  v66 := Try.zeroValue144
  i66 := by kernel_rfl }
def xs35_ren : Go.Shelf.Ren := ⟨fun | 35 => 104 | 13 => 60 | 24 => 80 | 25 => 81 | n => n, fun | 3 => 3 | 41 => 100 | 49 => 118 | 51 => 120 | 4 => 4 | 5 => 5 | 9 => 9 | n => n, fun | n => n⟩
theorem xs35 : Go.Proofs.LaysGg.n35 Try.prog xs35_ren := {
  mixed := by kernel_rfl
  f13 := Try.func60.trans (congrArg some (by kernel_rfl))
  f24 := Try.func80.trans (congrArg some (by kernel_rfl))
  f25 := Try.func81.trans (congrArg some (by kernel_rfl))
  f35 := Try.func104.trans (congrArg some (by kernel_rfl))
  t3 := Try.underlying3
  a3 := Try.isAgg3
  z3 := Try.sizeOf3
  v3 := Try.zeroValue3
  i3 := by kernel_rfl
  t4 := Try.underlying4
  a4 := Try.isAgg4
  z4 := Try.sizeOf4
  v4 := Try.zeroValue4
  i4 := by kernel_rfl
  t5 := Try.underlying5
  a5 := Try.isAgg5
  z5 := Try.sizeOf5
  v5 := Try.zeroValue5
  i5 := by kernel_rfl
  t9 := Try.underlying9
  a9 := Try.isAgg9
  z9 := Try.sizeOf9
  v9 := Try.zeroValue9
  i9 := by kernel_rfl
  t41 := Try.underlying100
  a41 := Try.isAgg100
  z41 := Try.sizeOf100
  v41 := Try.zeroValue100
  i41 := by kernel_rfl
  t49 := Try.underlying118
  a49 := Try.isAgg118
  z49 := Try.sizeOf118
  v49 := Try.zeroValue118
  i49 := by kernel_rfl
  t51 := Try.underlying120
  a51 := Try.isAgg120
  z51 := Try.sizeOf120
  v51 := Try.zeroValue120
  i51 := by kernel_rfl }
theorem RA.grown {W W' : World} {b g N c base s : Nat} {d : Array Int} (h : RA W b g N c base d) (hg : W.grownBy W' (some s)) (h1 : s ≠ b) (h2 : s ≠ g) : RA W' b g N c base d :=
  ⟨⟨h.rs.box.grown hg (fun e => h1 (by injection e)), h.rs.own.grown hg (fun g' e e2 => by injection e with e; injection e with e; injection e2 with e2; exact h2 (e2.trans e.symm))⟩, h.size⟩
section
variable {W : World} {b g N c base : Nat} {d : Array Int}
theorem next_any {s X : Nat} {w : World} (h : Blk w s 136 #[.int .u64 X]) (hX : X < 18446744073709551616) :
    Calls Try.prog 105 #[.pointer (some ⟨s, 0, none⟩)] w fun e w' => ∃ Y : Nat, e = .returned (.int .u64 Y) ∧ Y < 18446744073709551616 ∧ Blk w' s 136 #[.int .u64 Y] ∧ w.grownBy w' (some s) :=
  (Any.xorshift_Next xs36 s 0 X hX w (h.at_ rfl) (h.free 0)).mono fun e w' ⟨h1, h2⟩ => ⟨Sort.xorNextN X, h1, Sort.xorNextN_lt X hX, by rw [h2]; exact (h.set 0 _).drewN 3, by
    rw [h2]; exact ⟨rfl, rfl, rfl, by simp, fun j _ hj => Below.heap_setCell _ _ _ _ (fun e => hj (by rw [e]))⟩⟩
set_option maxRecDepth 100000 in
set_option maxHeartbeats 6400000 in
theorem break_any (h : RA W b g N c base d) {a e : Nat} (hae : a + 8 ≤ e) (heN : e ≤ N) (hN : N ≤ 1000) :
    Calls Try.prog 94 #[.iface 108 (.pointer (some ⟨b, 0, none⟩)), .int .i64 a, .int .i64 e] W fun r w' => r = .returned (.tuple #[]) ∧ ∃ d', RA w' b g N c base d' ∧ Sort.PermIn a e d d' ∧ W.grownBy w' (some g) := by
  obtain ⟨L, rfl⟩ : ∃ L, e = a + L := ⟨e - a, by omega⟩
  have eS := entersF Try.func134 (by kernel_rfl) rfl
  have mS := fun (W' : World) (h' : W'.cell? ⟨b, 0, none⟩ = some (.iface 78 (.slice (some ⟨g, 0, none⟩) N c))) => n_swap h'
  obtain ⟨M, hM⟩ : ∃ M : Nat, M = 1 <<< Sort.bitsLen L := ⟨_, rfl⟩
  have hM1 : 1 ≤ M := by rw [hM, Nat.one_shiftLeft]; exact Nat.two_pow_pos _
  have hM2 : M ≤ 2 * L := by rw [hM, Nat.one_shiftLeft]; exact Sort.two_pow_bitsLen_le (by omega)
  have CP := hide (fun w => Any.nextPowerOfTwo xs35 L (by omega) w)
  rw [← hM] at CP
  have hgl : g < W.heap.size := by
    obtain ⟨g', e1, _, h3⟩ := h.rs.own.addr (by omega)
    injection e1 with e1
    injection e1 with e1
    omega
  have hbl := h.rs.box.lt
  have t0 : (a : Int) + (L : Int) - (a : Int) = (L : Int) := by omega
  have t1 : (8 : Int) ≤ (L : Int) := by omega
  have hb0 : Below W.heap.size W (W.alloc (.cells #[.int .u64 L] 136)) := by repeat' (first | assumption | with_reducible exact Below.refl _ _ | with_reducible apply Below.drew | with_reducible apply below_drewN | with_reducible apply below_alloc | with_reducible refine below_set ?_ ?_ _ | (simp only [World.size_alloc, World.heap_drewN]; omega) | (simp; omega))
  have bs0 := Blk.new W 136 #[.int .u64 L]
  have H0 := hide (h.below hb0)
  have hsz := h.size
  clear h hM
  go_enter Try.func94, Try.ntmps94
  go_wp2_with fail
  refine (CP.out _).mono ?_
  rintro r w1 ⟨rfl, rfl⟩
  go_wp2_with fail
  go_loopw [9] (fun v wx => ∃ (t X : Nat) (dk : Array Int), v = .int .i64 ((a : Int) + (L : Int) / 4 * 2 - 1 + (t : Int)) ∧ t ≤ 3 ∧ X < 18446744073709551616 ∧ Hid (RA wx b g N c base dk) ∧ Hid (Sort.PermIn a (a + L) d dk) ∧ Blk wx W.heap.size 136 #[.int .u64 X] ∧ Hid (W.grownBy wx (some g))) (fun v _ => ((a : Int) + (L : Int) / 4 * 2 + 2 - intOf v).toNat)
  case atStart => exact ⟨0, L, d, by simp, by omega, by omega, H0, hide (Sort.permIn_refl _ _ _), bs0, hide (World.grownBy_alloc _ _ _)⟩
  case round =>
    clear H0 bs0
    obtain ⟨t, X, dk, rfl, ht, hX, HR, HP, bs, HG⟩ := hrel
    by_cases ht3 : t < 3
    · have hle : (a : Int) + (L : Int) / 4 * 2 - 1 + (t : Int) ≤ (a : Int) + (L : Int) / 4 * 2 + 1 := by omega
      have CN := hide (next_any bs hX)
      have hmid : a + (L / 4 * 2 - 1 + t) < a + L := by omega
      have ei : ((a + (L / 4 * 2 - 1 + t) : Nat) : Int) = (a : Int) + (L : Int) / 4 * 2 - 1 + (t : Int) := by omega
      go_wp2_with fail
      refine CN.out.mono ?_
      rintro r w2 ⟨Y, rfl, hY, bs2, g2⟩
      have hR2 := hide (HR.out.grown g2 (by omega) (by omega))
      have HG2 := hide (World.grownBy.andThen HG.out g2 (fun j hj => .inl (by injection hj with hj; omega)))
      obtain ⟨O, hO⟩ : ∃ O : Nat, O = Y &&& (M - 1) := ⟨_, rfl⟩
      have lO : O ≤ M - 1 := by rw [hO]; exact Nat.and_le_right
      have eAnd : Go.bits .and .u64 (Y : Int) ((M : Int) - 1) = (O : Int) := by
        rw [show ((M : Int) - 1) = ((M - 1 : Nat) : Int) by omega, bits_and_u64_nat _ _ hY (by omega), hO]
      clear hO HR HG CN bs g2
      by_cases hLO : L ≤ O
      · have hLOz : (L : Int) ≤ (O : Int) := by omega
        have CS := hide (ra_swap hR2.out (i := a + (L / 4 * 2 - 1 + t)) (j := a + (O - L)) (by omega) (by omega) hN)
        rw [ei, show ((a + (O - L) : Nat) : Int) = (a : Int) + ((O : Int) - (L : Int)) by omega] at CS
        have HP2 := hide (Sort.permIn_trans _ _ _ _ _ HP.out (Sort.swp_permIn dk a (a + L) (a + (L / 4 * 2 - 1 + t)) (a + (O - L)) (by omega) (by omega) (by omega) (by omega) (by rw [hR2.out.size]; exact heN)))
        have cW := hR2.out.rs.cell
        clear HP
        go_wp2_with fail
        refine CS.out.mono ?_
        rintro r w3 ⟨rfl, h3, g3⟩
        have bs3 := bs2.grown g3 (by intro e; injection e with e; omega)
        have HG3 := hide (grown_trans HG2.out g3)
        have H3 := hide h3
        clear CS cW hR2 HG2 bs2 h3 g3 eAnd
        go_wp2_with fail
        go_roundw
        case rel => exact ⟨t + 1, Y, _, by congr 1; push_cast; omega, by omega, hY, H3, HP2, bs3, HG3⟩
        case measure => simp [intOf]; omega
      · have hLOz : ¬ (L : Int) ≤ (O : Int) := by omega
        have CS := hide (ra_swap hR2.out (i := a + (L / 4 * 2 - 1 + t)) (j := a + O) (by omega) (by omega) hN)
        rw [ei, show ((a + O : Nat) : Int) = (a : Int) + (O : Int) by omega] at CS
        have HP2 := hide (Sort.permIn_trans _ _ _ _ _ HP.out (Sort.swp_permIn dk a (a + L) (a + (L / 4 * 2 - 1 + t)) (a + O) (by omega) (by omega) (by omega) (by omega) (by rw [hR2.out.size]; exact heN)))
        have cW := hR2.out.rs.cell
        clear HP
        go_wp2_with fail
        refine CS.out.mono ?_
        rintro r w3 ⟨rfl, h3, g3⟩
        have bs3 := bs2.grown g3 (by intro e; injection e with e; omega)
        have HG3 := hide (grown_trans HG2.out g3)
        have H3 := hide h3
        clear CS cW hR2 HG2 bs2 h3 g3 eAnd
        go_wp2_with fail
        go_roundw
        case rel => exact ⟨t + 1, Y, _, by congr 1; push_cast; omega, by omega, hY, H3, HP2, bs3, HG3⟩
        case measure => simp [intOf]; omega
    · obtain rfl : t = 3 := by omega
      have hle : ¬ ((a : Int) + (L : Int) / 4 * 2 - 1 + ((3 : Nat) : Int) ≤ (a : Int) + (L : Int) / 4 * 2 + 1) := by omega
      go_wp2_with fail
      go_end0
      exact ⟨rfl, dk, HR.out, HP.out, HG.out⟩
end
end Go.Proofs.Ytfopihlbdceepaa
