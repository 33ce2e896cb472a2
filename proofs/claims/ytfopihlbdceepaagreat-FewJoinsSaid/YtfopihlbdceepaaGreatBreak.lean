/-
  sort.breakPatterns over the reversed row: the walk. Conditions: the row; eight places at least.
-/
import Derived.Test.YtfopihlbdceepaaGreatPins
import Derived.Shelf.SlSortFunc.Xorshift
import Derived.Laws.Bits64b
import Derived.Deep.LoopGhost
namespace Go.Proofs.YtfopihlbdceepaaGreat
open Go.RowKit Go.Shelf

def xs36_ren : Go.Shelf.Ren := ⟨fun | 36 => 86 | n => n, fun | 66 => 124 | 51 => 93 | 0 => 0 | 60 => 115 | 41 => 63 | n => n, fun | n => n⟩
theorem xs36 : Go.Proofs.LaysGg.n36 Tryz.prog xs36_ren := {
  mixed := by kernel_rfl
  f36 := Tryz.func86.trans (congrArg some (by kernel_rfl))
  t0 := Tryz.underlying0
  a0 := Tryz.isAgg0
  z0 := Tryz.sizeOf0
  v0 := Tryz.zeroValue0
  i0 := by kernel_rfl
  t41 := Tryz.underlying63
  a41 := Tryz.isAgg63
  z41 := Tryz.sizeOf63
  v41 := Tryz.zeroValue63
  i41 := by kernel_rfl
  t51 := Tryz.underlying93
  a51 := Tryz.isAgg93
  z51 := Tryz.sizeOf93
  v51 := Tryz.zeroValue93
  i51 := by kernel_rfl
  t60 := Tryz.underlying115
  a60 := Tryz.isAgg115
  z60 := Tryz.sizeOf115
  v60 := Tryz.zeroValue115
  i60 := by kernel_rfl
  t66 := Tryz.underlying124
  a66 := Tryz.isAgg124
  z66 := Tryz.sizeOf124
  v66 := Tryz.zeroValue124
  i66 := by kernel_rfl }
def xs35_ren : Go.Shelf.Ren := ⟨fun | 35 => 85 | 13 => 30 | 24 => 50 | 25 => 51 | n => n, fun | 3 => 3 | 41 => 63 | 49 => 91 | 51 => 93 | 4 => 4 | 5 => 5 | 9 => 9 | n => n, fun | n => n⟩
theorem xs35 : Go.Proofs.LaysGg.n35 Tryz.prog xs35_ren := {
  mixed := by kernel_rfl
  f13 := Tryz.func30.trans (congrArg some (by kernel_rfl))
  f24 := Tryz.func50.trans (congrArg some (by kernel_rfl))
  f25 := Tryz.func51.trans (congrArg some (by kernel_rfl))
  f35 := Tryz.func85.trans (congrArg some (by kernel_rfl))
  t3 := Tryz.underlying3
  a3 := Tryz.isAgg3
  z3 := Tryz.sizeOf3
  v3 := Tryz.zeroValue3
  i3 := by kernel_rfl
  t4 := Tryz.underlying4
  a4 := Tryz.isAgg4
  z4 := Tryz.sizeOf4
  v4 := Tryz.zeroValue4
  i4 := by kernel_rfl
  t5 := Tryz.underlying5
  a5 := Tryz.isAgg5
  z5 := Tryz.sizeOf5
  v5 := Tryz.zeroValue5
  i5 := by kernel_rfl
  t9 := Tryz.underlying9
  a9 := Tryz.isAgg9
  z9 := Tryz.sizeOf9
  v9 := Tryz.zeroValue9
  i9 := by kernel_rfl
  t41 := Tryz.underlying63
  a41 := Tryz.isAgg63
  z41 := Tryz.sizeOf63
  v41 := Tryz.zeroValue63
  i41 := by kernel_rfl
  t49 := Tryz.underlying91
  a49 := Tryz.isAgg91
  z49 := Tryz.sizeOf91
  v49 := Tryz.zeroValue91
  i49 := by kernel_rfl
  t51 := Tryz.underlying93
  a51 := Tryz.isAgg93
  z51 := Tryz.sizeOf93
  v51 := Tryz.zeroValue93
  i51 := by kernel_rfl }
theorem RA.grown {W W' : World} {b g N c base s : Nat} {d : Array Int} (h : RA W b g N c base d) (hg : W.grownBy W' (some s)) (h1 : s ≠ b) (h2 : s ≠ g) : RA W' b g N c base d :=
  ⟨⟨h.rs.box.grown hg (fun e => h1 (by injection e)), h.rs.own.grown hg (fun g' e e2 => by injection e with e; injection e with e; injection e2 with e2; exact h2 (e2.trans e.symm))⟩, h.size⟩
section
variable {W : World} {b g N c base : Nat} {d : Array Int}
theorem next_any {s X : Nat} {w : World} (h : Blk w s 115 #[.int .u64 X]) (hX : X < 18446744073709551616) :
    Calls Tryz.prog 86 #[.pointer (some ⟨s, 0, none⟩)] w fun e w' => ∃ Y : Nat, e = .returned (.int .u64 Y) ∧ Y < 18446744073709551616 ∧ Blk w' s 115 #[.int .u64 Y] ∧ w.grownBy w' (some s) :=
  (Any.xorshift_Next xs36 s 0 X hX w (h.at_ rfl) (h.free 0)).mono fun e w' ⟨h1, h2⟩ => ⟨Sort.xorNextN X, h1, Sort.xorNextN_lt X hX, by rw [h2]; exact (h.set 0 _).drewN 3, by
    rw [h2]; exact ⟨rfl, rfl, rfl, by simp, fun j _ hj => Below.heap_setCell _ _ _ _ (fun e => hj (by rw [e]))⟩⟩
set_option maxRecDepth 100000 in
set_option maxHeartbeats 6400000 in
theorem break_any (h : RA W b g N c base d) {a e : Nat} (hae : a + 8 ≤ e) (heN : e ≤ N) (hN : N ≤ 1000) :
    Calls Tryz.prog 71 #[.iface 76 (.pointer (some ⟨b, 0, none⟩)), .int .i64 a, .int .i64 e] W fun r w' => r = .returned (.tuple #[]) ∧ ∃ d', RA w' b g N c base d' ∧ Sort.PermIn a e d d' ∧ W.grownBy w' (some g) := by
  obtain ⟨L, rfl⟩ : ∃ L, e = a + L := ⟨e - a, by omega⟩
  have eS := entersF Tryz.func115 (by kernel_rfl) rfl
  have mS := fun (W' : World) (h' : W'.cell? ⟨b, 0, none⟩ = some (.iface 55 (.slice (some ⟨g, 0, none⟩) N c))) => n_swap h'
  obtain ⟨M, hM⟩ : ∃ M : Nat, M = 1 <<< Sort.bitsLen L := ⟨_, rfl⟩
  have hM1 : 1 ≤ M := by rw [hM, Nat.one_shiftLeft]; exact Nat.two_pow_pos _
  have hM2 : M ≤ 2 * L := by rw [hM, Nat.one_shiftLeft]; exact Sort.two_pow_bitsLen_le (by omega)
  have CP := hide (fun w => Any.nextPowerOfTwo xs35 L (by omega) w)
  rw [← hM] at CP
  have hgl : g < W.heap.size := by
    obtain ⟨g', e1, _, h3⟩ := h.rs.own.addr (by omega)
    injection e1 with e1
    injection e1 with e1
    omega
  have hbl := h.rs.box.lt
  have t0 : (a : Int) + (L : Int) - (a : Int) = (L : Int) := by omega
  have t1 : (8 : Int) ≤ (L : Int) := by omega
  have hb0 : Below W.heap.size W (W.alloc (.cells #[.int .u64 L] 115)) := by repeat' (first | assumption | with_reducible exact Below.refl _ _ | with_reducible apply Below.drew | with_reducible apply below_drewN | with_reducible apply below_alloc | with_reducible refine below_set ?_ ?_ _ | (simp only [World.size_alloc, World.heap_drewN]; omega) | (simp; omega))
  have bs0 := Blk.new W 115 #[.int .u64 L]
  have H0 := hide (h.below hb0)
  have hsz := h.size
  clear h hM
  go_enter Tryz.func71, Tryz.ntmps71
  go_wp2_with fail
  refine (CP.out _).mono ?_
  rintro r w1 ⟨rfl, rfl⟩
  go_wp2_with fail
  go_loopw [9] (fun v wx => ∃ (t X : Nat) (dk : Array Int), v = .int .i64 ((a : Int) + (L : Int) / 4 * 2 - 1 + (t : Int)) ∧ t ≤ 3 ∧ X < 18446744073709551616 ∧ Hid (RA wx b g N c base dk) ∧ Hid (Sort.PermIn a (a + L) d dk) ∧ Blk wx W.heap.size 115 #[.int .u64 X] ∧ Hid (W.grownBy wx (some g))) (fun v _ => ((a : Int) + (L : Int) / 4 * 2 + 2 - intOf v).toNat)
  case atStart => exact ⟨0, L, d, by simp, by omega, by omega, H0, hide (Sort.permIn_refl _ _ _), bs0, hide (World.grownBy_alloc _ _ _)⟩
  case round =>
    clear H0 bs0
    obtain ⟨t, X, dk, rfl, ht, hX, HR, HP, bs, HG⟩ := hrel
    by_cases ht3 : t < 3
    · have hle : (a : Int) + (L : Int) / 4 * 2 - 1 + (t : Int) ≤ (a : Int) + (L : Int) / 4 * 2 + 1 := by omega
      have CN := hide (next_any bs hX)
      have hmid : a + (L / 4 * 2 - 1 + t) < a + L := by omega
      have ei : ((a + (L / 4 * 2 - 1 + t) : Nat) : Int) = (a : Int) + (L : Int) / 4 * 2 - 1 + (t : Int) := by omega
      go_wp2_with fail
      refine CN.out.mono ?_
      rintro r w2 ⟨Y, rfl, hY, bs2, g2⟩
      have hR2 := hide (HR.out.grown g2 (by omega) (by omega))
      have HG2 := hide (World.grownBy.andThen HG.out g2 (fun j hj => .inl (by injection hj with hj; omega)))
      obtain ⟨O, hO⟩ : ∃ O : Nat, O = Y &&& (M - 1) := ⟨_, rfl⟩
      have lO : O ≤ M - 1 := by rw [hO]; exact Nat.and_le_right
      have eAnd : Go.bits .and .u64 (Y : Int) ((M : Int) - 1) = (O : Int) := by
        rw [show ((M : Int) - 1) = ((M - 1 : Nat) : Int) by omega, bits_and_u64_nat _ _ hY (by omega), hO]
      clear hO HR HG CN bs g2
      by_cases hLO : L ≤ O
      · have hLOz : (L : Int) ≤ (O : Int) := by omega
        have CS := hide (ra_swap hR2.out (i := a + (L / 4 * 2 - 1 + t)) (j := a + (O - L)) (by omega) (by omega) hN)
        rw [ei, show ((a + (O - L) : Nat) : Int) = (a : Int) + ((O : Int) - (L : Int)) by omega] at CS
        have HP2 := hide (Sort.permIn_trans _ _ _ _ _ HP.out (Sort.swp_permIn dk a (a + L) (a + (L / 4 * 2 - 1 + t)) (a + (O - L)) (by omega) (by omega) (by omega) (by omega) (by rw [hR2.out.size]; exact heN)))
        have cW := hR2.out.rs.cell
        clear HP
        go_wp2_with fail
        refine CS.out.mono ?_
        rintro r w3 ⟨rfl, h3, g3⟩
        have bs3 := bs2.grown g3 (by intro e; injection e with e; omega)
        have HG3 := hide (grown_trans HG2.out g3)
        have H3 := hide h3
        clear CS cW hR2 HG2 bs2 h3 g3 eAnd
        go_wp2_with fail
        go_roundw
        case rel => exact ⟨t + 1, Y, _, by congr 1; push_cast; omega, by omega, hY, H3, HP2, bs3, HG3⟩
        case measure => simp [intOf]; omega
      · have hLOz : ¬ (L : Int) ≤ (O : Int) := by omega
        have CS := hide (ra_swap hR2.out (i := a + (L / 4 * 2 - 1 + t)) (j := a + O) (by omega) (by omega) hN)
        rw [ei, show ((a + O : Nat) : Int) = (a : Int) + (O : Int) by omega] at CS
        have HP2 := hide (Sort.permIn_trans _ _ _ _ _ HP.out (Sort.swp_permIn dk a (a + L) (a + (L / 4 * 2 - 1 + t)) (a + O) (by omega) (by omega) (by omega) (by omega) (by rw [hR2.out.size]; exact heN)))
        have cW := hR2.out.rs.cell
        clear HP
        go_wp2_with fail
        refine CS.out.mono ?_
        rintro r w3 ⟨rfl, h3, g3⟩
        have bs3 := bs2.grown g3 (by intro e; injection e with e; omega)
        have HG3 := hide (grown_trans HG2.out g3)
        have H3 := hide h3
        clear CS cW hR2 HG2 bs2 h3 g3 eAnd
        go_wp2_with fail
        go_roundw
        case rel => exact ⟨t + 1, Y, _, by congr 1; push_cast; omega, by omega, hY, H3, HP2, bs3, HG3⟩
        case measure => simp [intOf]; omega
    · obtain rfl : t = 3 := by omega
      have hle : ¬ ((a : Int) + (L : Int) / 4 * 2 - 1 + ((3 : Nat) : Int) ≤ (a : Int) + (L : Int) / 4 * 2 + 1) := by omega
      go_wp2_with fail
      go_end0
      exact ⟨rfl, dk, HR.out, HP.out, HG.out⟩
end
end Go.Proofs.YtfopihlbdceepaaGreat
