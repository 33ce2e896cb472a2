/-
  sort.Reverse(sort.IntSlice(..)): Less and Swap over an array; sort.insertionSort. Conditions: the row.
-/
import Derived.Test.YtfopihlbdceepaaGreatRev
import Derived.Sort.LotD3
import Derived.Shelf.RegionOpenPlain
namespace Go.Proofs.YtfopihlbdceepaaGreat
open Go.RowKit Go.Shelf

/-- The greater one first. -/
def ltD (x y : Int) : Bool := decide (y < x)
theorem swo_ltD : Sort.SWO ltD where
  irrefl := fun x => by simp [ltD]
  trans := fun x y z h1 h2 => by simp [ltD] at *; omega
  ntrans := fun x y z h1 h2 => by simp [ltD] at *; omega
/-- The reversed row holds the array d. -/
structure RA (W : World) (b g N c base : Nat) (d : Array Int) : Prop where
  rs : RS W b g N c base d.toList
  size : d.size = N
section
variable {W W' : World} {b g N c base : Nat} {d : Array Int}
theorem RA.drewN (h : RA W b g N c base d) (q : Nat) : RA (W.drewN q) b g N c base d := ⟨h.rs.drewN q, h.size⟩
theorem RA.below (h : RA W b g N c base d) (hb : Below W.heap.size W W') : RA W' b g N c base d := ⟨h.rs.below hb, h.size⟩
theorem RA.at_ (h : RA W b g N c base d) {i : Nat} (hi : i < N) : d.toList[i]? = some d[i]! := by
  have hs := h.size
  rw [getElem!_pos d i (by omega), Array.getElem?_toList]
  exact Array.getElem?_eq_getElem (by omega)
theorem swp_list (d : Array Int) (i j : Nat) : (Sort.swp d i j).toList = (d.toList.set i d[j]!).set j d[i]! := by
  unfold Sort.swp
  simp [Array.toList_setIfInBounds]
theorem ra_less (h : RA W b g N c base d) {i j : Nat} (hi : i < N) (hj : j < N) (hN : N ≤ 1000) : Calls Tryz.prog 117 #[.agg #[.iface 55 (.slice (some ⟨g, 0, none⟩) N c)], .int .i64 i, .int .i64 j] W fun e w' => e = .returned (.bool (ltD d[i]! d[j]!)) ∧ Below W.heap.size W w' :=
  rev_less h.rs (h.at_ hi) (h.at_ hj) hN
set_option maxHeartbeats 3200000 in
theorem isl_swap (x y : Int) (i j : Nat) (hi : i < N) (hj : j < N) (hN : N ≤ 1000) (ci : W.cell? ⟨g, i, none⟩ = some (.int .i64 x)) (cj : W.cell? ⟨g, j, none⟩ = some (.int .i64 y)) (fi : W.frozen? ⟨g, i, none⟩ = false) (fj : W.frozen? ⟨g, j, none⟩ = false) :
    Calls Tryz.prog 115 #[.slice (some ⟨g, 0, none⟩) N c, .int .i64 i, .int .i64 j] W fun e w' => e = .returned (.tuple #[]) ∧ ∃ q, w' = ((W.setCell ⟨g, i, none⟩ (.int .i64 y)).setCell ⟨g, j, none⟩ (.int .i64 x)).drewN q := by
  obtain ⟨v', hy'⟩ := cell?_setCell_some (w := W) (p := ⟨g, i, none⟩) (x := .int .i64 y) (q := ⟨g, j, none⟩) cj
  have mixed : Tryz.prog.follows .mixedOrders = true := by kernel_rfl
  go_enter Tryz.func115, Tryz.ntmps115
  go_wp2
  go_region_o
  all_goals (try go_wp2)
  all_goals go_end0
  all_goals exact ⟨rfl, 1, rfl⟩
theorem ra_swap (h : RA W b g N c base d) {i j : Nat} (hi : i < N) (hj : j < N) (hN : N ≤ 1000) : Calls Tryz.prog 115 #[.slice (some ⟨g, 0, none⟩) N c, .int .i64 i, .int .i64 j] W fun e w' => e = .returned (.tuple #[]) ∧ RA w' b g N c base (Sort.swp d i j) ∧ W.grownBy w' (some g) := by
  have ci := h.rs.own.cell (ints_at (h.at_ hi))
  have cj := h.rs.own.cell (ints_at (h.at_ hj))
  have hne := h.rs.ne (by omega)
  refine (isl_swap d[i]! d[j]! i j hi hj hN ci cj (h.rs.own.free _) (h.rs.own.free _)).mono ?_
  rintro e w' ⟨rfl, q, rfl⟩
  refine ⟨rfl, ⟨⟨?_, ?_⟩, by unfold Sort.swp; simp [h.size]⟩, ?_⟩
  · exact ((h.rs.box.far (p := ⟨g, i, none⟩) hne _).far (p := ⟨g, j, none⟩) hne _).drewN q
  · have := ((h.rs.own.set i (.int .i64 d[j]!)).set j (.int .i64 d[i]!)).drewN q
    rwa [← ints_set, ← ints_set, ← swp_list] at this
  · exact ⟨rfl, rfl, rfl, by simp [World.drewN], fun k hk hne => by
      have hg : k ≠ g := fun e => hne (by rw [e])
      exact (Below.heap_setCell _ _ _ _ hg).trans (Below.heap_setCell _ _ _ _ hg)⟩
/-- What a sorting function leaves. -/
theorem grown_trans {w1 w2 w3 : World} {g : Nat} (h : w1.grownBy w2 (some g)) (k : w2.grownBy w3 (some g)) : w1.grownBy w3 (some g) := World.grownBy.andThen h k fun j hj => .inr hj
theorem grown_of {w1 w2 : World} {g : Nat} (h : Below w1.heap.size w1 w2) : w1.grownBy w2 (some g) := ⟨h.os, h.tape, h.output, h.size, fun k hk _ => h.block k hk⟩
set_option maxRecDepth 100000 in
set_option maxHeartbeats 3200000 in
theorem is_any (h : RA W b g N c base d) {a e : Nat} (hae : a ≤ e) (heN : e ≤ N) (hN : N ≤ 1000) :
    Calls Tryz.prog 69 #[.iface 76 (.pointer (some ⟨b, 0, none⟩)), .int .i64 a, .int .i64 e] W fun r w' => r = .returned (.tuple #[]) ∧ RA w' b g N c base (Sort.insertionSort ltD d a e) ∧ W.grownBy w' (some g) := by
  have eL := entersF Tryz.func117 (by kernel_rfl) rfl
  have eS := entersF Tryz.func115 (by kernel_rfl) rfl
  have mL := fun (W' : World) (h' : W'.cell? ⟨b, 0, none⟩ = some (.iface 55 (.slice (some ⟨g, 0, none⟩) N c))) => n_less h'
  have mS := fun (W' : World) (h' : W'.cell? ⟨b, 0, none⟩ = some (.iface 55 (.slice (some ⟨g, 0, none⟩) N c))) => n_swap h'
  have H := hide h
  clear h
  go_enter Tryz.func69, Tryz.ntmps69
  go_wp2_with fail
  go_loopw [6] (fun vi wr => ∃ (i : Nat) (dk : Array Int), vi = .int .i64 i ∧ a + 1 ≤ i ∧ i ≤ e + 1 ∧ Hid (RA wr b g N c base dk) ∧ Hid (Sort.insOuter ltD a e i dk = Sort.insertionSort ltD d a e) ∧ Hid (W.grownBy wr (some g))) (fun vi _ => e + 1 - (intOf vi).toNat)
  case atStart => exact ⟨a + 1, d, by go_num, Nat.le_refl _, by omega, H, hide rfl, hide (World.grownBy.refl _ _)⟩
  case round =>
    obtain ⟨i, dk, rfl, hai, hie, HR, HO, HG⟩ := hrel
    by_cases hlt : i < e
    · have HO2 := hide (show Sort.insOuter ltD a e (i + 1) (Sort.insInner ltD a i dk) = Sort.insertionSort ltD d a e by rw [← HO.out]; conv => rhs; rw [Sort.insOuter, if_pos hlt])
      obtain ⟨wo, rfl⟩ : ∃ wo : World, wo = wr := ⟨_, rfl⟩
      go_wp2_with fail
      go_loopw [7] (fun vj wr => ∃ (j : Nat) (dj : Array Int), vj = .int .i64 j ∧ a ≤ j ∧ j ≤ i ∧ Hid (RA wr b g N c base dj) ∧ Hid (Sort.insInner ltD a j dj = Sort.insInner ltD a i dk) ∧ Hid (W.grownBy wr (some g))) (fun vj _ => (intOf vj).toNat)
      case atStart => exact ⟨i, dk, rfl, by omega, Nat.le_refl _, HR, hide rfl, HG⟩
      case round =>
        clear HR HO HG
        obtain ⟨j, dj, rfl, haj, hji, HR, HI, HG⟩ := hrel
        by_cases hgt : a < j
        · obtain ⟨m, rfl⟩ : ∃ m, j = m + 1 := ⟨j - 1, by omega⟩
          have CL := hide (ra_less HR.out (i := m + 1) (j := m) (by omega) (by omega) hN)
          have cW := HR.out.rs.cell
          have ec : ((m + 1 : Nat) : Int) = (m : Int) + 1 := by omega
          rw [ec] at CL ⊢
          have t1 : ((m : Int) + 1) - 1 = (m : Int) := by omega
          have t2 : IntKind.i64.wrap (m : Int) = (m : Int) := IntWalk.i64_in _ (by omega)
          have HI2 := hide (show (if decide (m + 1 > a) && ltD dj[m + 1]! dj[m]! then Sort.insInner ltD a m (Sort.swp dj (m + 1) m) else dj) = Sort.insInner ltD a i dk from HI.out)
          cases hl : ltD dj[m + 1]! dj[m]! with
          | true =>
            rw [hl] at CL HI2
            have HI3 := hide (show Sort.insInner ltD a m (Sort.swp dj (m + 1) m) = Sort.insInner ltD a i dk by have := HI2.out; rwa [if_pos (by simp; omega)] at this)
            clear hl HI2
            go_wp2_with fail
            refine CL.out.mono ?_
            rintro r w1 ⟨rfl, b1⟩
            have h1 := hide (HR.out.below b1)
            have cW1 := h1.out.rs.cell
            have CS := hide (ra_swap h1.out (i := m + 1) (j := m) (by omega) (by omega) hN)
            have HG1 := hide (grown_trans HG.out (grown_of b1))
            rw [ec] at CS
            clear HR HG b1 cW
            go_wp2_with fail
            refine CS.out.mono ?_
            rintro r w2 ⟨rfl, h2, g2⟩
            go_wp2_with fail
            go_roundw
            case rel => exact ⟨m, _, by go_num, by omega, by omega, h2, HI3, grown_trans HG1.out g2⟩
            case measure => first | (simp [intOf]; done) | (simp [intOf]; omega)
          | false =>
            rw [hl] at CL HI2
            have HI3 := hide (show dj = Sort.insInner ltD a i dk by have := HI2.out; rwa [if_neg (by simp)] at this)
            clear hl HI2
            go_wp2_with fail
            refine CL.out.mono ?_
            rintro r w1 ⟨rfl, b1⟩
            have h1 := hide (HR.out.below b1)
            have HG1 := hide (grown_trans HG.out (grown_of b1))
            rw [HI3.out] at h1
            clear HR HG b1 cW
            go_wp2_with fail
            go_roundw
            case rel => exact ⟨i + 1, _, by go_num, by omega, by omega, h1, HO2, HG1⟩
            case measure => first | (simp [intOf]; done) | (simp [intOf]; omega)
        · obtain rfl : j = a := by omega
          have HI3 := hide (show dj = Sort.insInner ltD j i dk by
            rw [← HI.out]
            cases j with
            | zero => rfl
            | succ m => show dj = (if decide (m + 1 > m + 1) && ltD dj[m + 1]! dj[m]! then _ else dj); rw [if_neg (by simp)])
          have h1 := HR
          rw [HI3.out] at h1
          go_wp2_with fail
          go_roundw
          case rel => exact ⟨i + 1, _, by go_num, by omega, by omega, h1, HO2, HG⟩
          case measure => first | (simp [intOf]; done) | (simp [intOf]; omega)
    · have HF := hide (show dk = Sort.insertionSort ltD d a e by rw [← HO.out, Sort.insOuter, if_neg hlt])
      go_wp2_with fail
      go_end0
      exact ⟨rfl, by rw [← HF.out]; exact HR.out, HG.out⟩
end
end Go.Proofs.YtfopihlbdceepaaGreat
