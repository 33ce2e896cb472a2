/- Proves the parts of the claim that its last text joins: Div64. Conditions: those that each theorem names. -/
import Derived.Test.YtjpbjghdplbdcaaGreatDoorM01
import Derived.Test.YtjpbjghdplbdcaaGreatDoorM07
import Derived.Test.YtjpbjghdplbdcaaGreatDoorProg
import Derived.Shelf.Small.Bits
import Derived.Shelf.Bits.Mul64
import Derived.Ground.NamesProg
import Derived.Laws.BitsAllLaws
import Derived.Deep.QuietTactic
import Derived.BigQuiet
import Derived.Deep.DeepCutAuto
import Derived.WalkKit
section
namespace Go.Proofs.YtjpbjghdplbdcaaGreatDoor
open Go.RowKit Go.Shelf
def laysLz_ren : Go.Shelf.Ren := ⟨fun | 134 => 231 | 129 => 268 | n => n, fun | 53 => 72 | 3 => 3 | 4 => 4 | 46 => 166 | 5 => 5 | 9 => 9 | n => n, fun | n => n⟩
theorem laysLz : Go.Proofs.Lays.n134 Tryz.prog laysLz_ren := {
  mixed := by kernel_rfl
  f129 := Tryz.func268.trans (congrArg some (by kernel_rfl))
  f134 := Tryz.func231.trans (congrArg some (by kernel_rfl))
  t3 := Tryz.underlying3
  a3 := Tryz.isAgg3
  z3 := Tryz.sizeOf3
  v3 := Tryz.zeroValue3
  t4 := Tryz.underlying4
  a4 := Tryz.isAgg4
  z4 := Tryz.sizeOf4
  v4 := Tryz.zeroValue4
  t5 := Tryz.underlying5
  a5 := Tryz.isAgg5
  z5 := Tryz.sizeOf5
  v5 := Tryz.zeroValue5
  t9 := Tryz.underlying9
  a9 := Tryz.isAgg9
  z9 := Tryz.sizeOf9
  v9 := Tryz.zeroValue9
  t46 := Tryz.underlying166
  a46 := Tryz.isAgg166
  z46 := Tryz.sizeOf166
  v46 := Tryz.zeroValue166
  t53 := Tryz.underlying72
  a53 := Tryz.isAgg72
  z53 := Tryz.sizeOf72
  v53 := Tryz.zeroValue72 }
theorem lz_any {y : Nat} (h : y < 18446744073709551616) {s : Nat} (hs : Lib.bitLen y + s = 64) (w : World) : Calls Tryz.prog 231 #[.int .u64 y] w fun e w' => e = .returned (.int .i64 s) ∧ w = w' := by
  refine (Any.bits_LeadingZeros64 laysLz y w (by omega) (by omega)).mono ?_
  rintro e w' ⟨rfl, rfl⟩
  refine ⟨?_, rfl⟩
  rw [Int.toNat_natCast, show (64 : Int) - (Lib.bitLen y : Int) = (s : Int) by omega]

theorem wrapU (n : Nat) : IntKind.u64.wrap (n : Int) = ((n % 18446744073709551616 : Nat) : Int) := by rw [IntKind.wrap_u64]; omega
theorem wrapU_id {n : Nat} (h : n < 18446744073709551616) : IntKind.u64.wrap (n : Int) = (n : Int) := by rw [IntKind.wrap_u64]; omega
theorem pow_ne (s : Nat) : (2 : Int) ^ s ≠ 0 := Int.pow_ne_zero (by decide)
theorem mul_pow (n s : Nat) : (n : Int) * 2 ^ s = ((n * 2 ^ s : Nat) : Int) := by rw [Int.natCast_mul, Int.natCast_pow]; rfl
theorem maskLow {n : Nat} (h : n < 18446744073709551616) : bits .and .u64 (n : Int) 4294967295 = ((n % 4294967296 : Nat) : Int) := by
  have e := u64_and_nat n 4294967295 h (by omega)
  rw [Nat.and_two_pow_sub_one_eq_mod n 32] at e
  exact e
theorem trial_eqs {U a : Nat} (ha : 0 < a) (hU : U < 18446744073709551616) :
    ∃ q P r : Nat, (U : Int).tdiv (a : Int) = (q : Int) ∧ IntKind.u64.wrap (q : Int) = (q : Int) ∧ IntKind.u64.wrap ((q : Int) * (a : Int)) = (P : Int) ∧ IntKind.u64.wrap ((U : Int) - (P : Int)) = (r : Int) ∧ U / a = q ∧ U % a = r := by
  have h1 := Nat.div_mul_le_self U a
  have h2 := Nat.div_add_mod U a
  have h3 : U / a ≤ U := Nat.div_le_self _ _
  rw [Nat.mul_comm] at h2
  refine ⟨U / a, U / a * a, U % a, rfl, wrapU_id (by omega), ?_, ?_, rfl, rfl⟩
  · rw [← Int.natCast_mul]; exact wrapU_id (by omega)
  · rw [IntKind.wrap_u64]; omega
theorem rest_eqs {U c Q Y R : Nat} (hQ : (U * 4294967296 + c) / Y = Q) (hR : (U * 4294967296 + c) % Y = R) (hY : Y < 18446744073709551616) (h0 : 0 < Y) :
    ∃ W1 W2 W3 : Nat, IntKind.u64.wrap ((U : Int) * 4294967296) = (W1 : Int) ∧ IntKind.u64.wrap ((W1 : Int) + (c : Int)) = (W2 : Int) ∧ IntKind.u64.wrap ((Q : Int) * (Y : Int)) = (W3 : Int) ∧ IntKind.u64.wrap ((W2 : Int) - (W3 : Int)) = (R : Int) := by
  have h2 := Nat.div_add_mod (U * 4294967296 + c) Y
  have h3 := Nat.mod_lt (U * 4294967296 + c) h0
  rw [hQ, hR, Nat.mul_comm] at h2
  rw [hR] at h3
  refine ⟨U * 4294967296 % 18446744073709551616, (U * 4294967296 % 18446744073709551616 + c) % 18446744073709551616, Q * Y % 18446744073709551616, ?_, ?_, ?_, ?_⟩
  · rw [IntKind.wrap_u64]; omega
  · rw [IntKind.wrap_u64]; omega
  · rw [← Int.natCast_mul]; exact wrapU _
  · generalize Q * Y = Z at h2 ⊢
    rw [IntKind.wrap_u64]; omega
theorem less_eqs {q r a : Nat} (h1 : 1 ≤ q) (hq : q ≤ 4294967297) (hr : r < 4294967296) (ha : a < 4294967296) : ∃ p t : Nat, IntKind.u64.wrap ((q : Int) - 1) = (p : Int) ∧ IntKind.u64.wrap ((r : Int) + (a : Int)) = (t : Int) ∧ q - 1 = p ∧ r + a = t :=
  ⟨q - 1, r + a, by rw [IntKind.wrap_u64]; omega, by rw [IntKind.wrap_u64]; omega, rfl, rfl⟩
theorem ask_eqs {q b r c : Nat} (hq : q < 4294967296) (hb : b < 4294967296) (hr : r < 4294967296) (hc : c < 4294967296) :
    ∃ P M K : Nat, IntKind.u64.wrap ((q : Int) * (b : Int)) = (P : Int) ∧ IntKind.u64.wrap (4294967296 * (r : Int)) = (M : Int) ∧ IntKind.u64.wrap ((M : Int) + (c : Int)) = (K : Int) ∧ q * b = P ∧ 4294967296 * r + c = K := by
  have h : q * b ≤ 4294967295 * 4294967295 := Nat.mul_le_mul (by omega) (by omega)
  refine ⟨q * b, 4294967296 * r, 4294967296 * r + c, ?_, ?_, ?_, rfl, rfl⟩
  · rw [← Int.natCast_mul]; exact wrapU_id (by omega)
  · rw [IntKind.wrap_u64]; omega
  · rw [IntKind.wrap_u64]; omega

def DivRet (N y : Nat) (w : World) (e : Ending) (w' : World) : Prop := e = .returned (.tuple #[.int .u64 (N / y : Nat), .int .u64 (N % y : Nat)]) ∧ w = w'
set_option maxRecDepth 20000 in
set_option maxHeartbeats 1600000 in
theorem div64_low {lo y : Nat} (h1 : 0 < y) (h2 : y < 18446744073709551616) (h3 : lo < 18446744073709551616) (w : World) :
    Calls Tryz.prog 173 #[.int .u64 0, .int .u64 lo, .int .u64 y] w fun e w' => e = .returned (.tuple #[.int .u64 (lo / y : Nat), .int .u64 (lo % y : Nat)]) ∧ ∃ q, w' = w.drewN q := by
  have n1 : ¬ (y : Int) ≤ 0 := by omega
  have n2 : ¬ (y : Int) = 0 := by omega
  have e1 : ((y : Int) == 0) = false := by simpa using n2
  have hq : lo / y < 18446744073709551616 := Nat.lt_of_le_of_lt (Nat.div_le_self _ _) h3
  have hm := Nat.mod_lt lo h1
  obtain ⟨q, eq0⟩ : ∃ q, lo / y = q := ⟨_, rfl⟩
  obtain ⟨m, em0⟩ : ∃ m, lo % y = m := ⟨_, rfl⟩
  have eq : (lo : Int).tdiv (y : Int) = (q : Int) := by rw [← eq0]; rfl
  have em : (lo : Int).tmod (y : Int) = (m : Int) := by rw [← em0]; rfl
  have ew : IntKind.u64.wrap (q : Int) = (q : Int) := wrapU_id (by omega)
  have ev : IntKind.u64.wrap (m : Int) = (m : Int) := wrapU_id (by omega)
  have EQ := hide eq0
  have EM := hide em0
  rw [eq0, em0]
  clear eq0 em0 hq hm
  go_enter Tryz.func173, Tryz.ntmps173
  go_upto_region 6 with fail
  go_quiet (fail)
  go_wp2_with fail
  go_ret2
  exact ⟨rfl, _, rfl⟩

set_option maxRecDepth 100000 in
set_option maxHeartbeats 3200000 in
theorem div64_high {hi lo y s : Nat} (h0 : 0 < hi) (h1 : hi < y) (h2 : y < 18446744073709551616) (h3 : lo < 18446744073709551616) (hs : Lib.bitLen y + s = 64) (w : World) :
    Calls Tryz.prog 173 #[.int .u64 hi, .int .u64 lo, .int .u64 y] w (DivRet (hi * 18446744073709551616 + lo) y w) := by
  obtain ⟨U, V, Y, L, sh⟩ := shifted h1 h2 h3 hs
  have SH := hide sh
  obtain ⟨t63, hY, y1, y2, hL, hU, hor, hV, hall, uy, l2⟩ := sh
  obtain ⟨N, hN⟩ : ∃ N, hi * 18446744073709551616 + lo = N := ⟨_, rfl⟩
  rw [hN] at hall
  rw [hN]
  obtain ⟨H, hH⟩ : ∃ H, hi * 2 ^ s = H := ⟨_, rfl⟩
  rw [hH] at hU hor
  obtain ⟨t, ht⟩ : ∃ t, 64 - s = t := ⟨_, rfl⟩
  rw [ht] at hL
  obtain ⟨a, ha⟩ : ∃ a, Y / 4294967296 = a := ⟨_, rfl⟩
  obtain ⟨b, hb⟩ : ∃ b, Y % 4294967296 = b := ⟨_, rfl⟩
  obtain ⟨c1, hc1⟩ : ∃ c, V / 4294967296 = c := ⟨_, rfl⟩
  obtain ⟨c0, hc0⟩ : ∃ c, V % 4294967296 = c := ⟨_, rfl⟩
  have v2 : V < 18446744073709551616 := by rw [hV]; exact Nat.mod_lt _ (by decide)
  have l64 : L < 18446744073709551616 := by rw [hL]; exact Nat.lt_of_le_of_lt (Nat.div_le_self _ _) h3
  have es : IntKind.u64.wrap (s : Int) = (s : Int) := wrapU_id (by omega)
  have ms : min s 64 = s := by omega
  have eY : IntKind.u64.wrap ((y : Int) * 2 ^ s) = (Y : Int) := by rw [mul_pow, ← hY]; exact wrapU_id y2
  have ea : (Y : Int) / 4294967296 = (a : Int) := by omega
  have eb : bits .and .u64 (Y : Int) 4294967295 = (b : Int) := by rw [maskLow y2, hb]
  have eH : IntKind.u64.wrap ((hi : Int) * 2 ^ s) = (H : Int) := by rw [mul_pow, hH]; exact wrapU_id (by omega)
  have et : IntKind.u64.wrap (64 - (s : Int)) = (t : Int) := by rw [show (64 : Int) - (s : Int) = (t : Int) by omega]; exact wrapU_id (by omega)
  have mt : min t 64 = t := by omega
  have eL : (lo : Int) / 2 ^ t = (L : Int) := by rw [hL, Int.natCast_ediv, Int.natCast_pow]; rfl
  have eU : bits .or .u64 (H : Int) (L : Int) = (U : Int) := by rw [u64_or_nat H L (by omega) l64, hor]
  have eV : IntKind.u64.wrap ((lo : Int) * 2 ^ s) = (V : Int) := by rw [mul_pow, hV]; exact wrapU _
  have ec1 : (V : Int) / 4294967296 = (c1 : Int) := by omega
  have ec0 : bits .and .u64 (V : Int) 4294967295 = (c0 : Int) := by rw [maskLow v2, hc0]
  have T1 : Two Y a b U c1 := ⟨by omega, by omega, by omega, by omega, uy, by omega⟩
  have a0 : 0 < a := by omega
  have a2 : a < 4294967296 := by omega
  have b2 : b < 4294967296 := by omega
  have c12 : c1 < 4294967296 := by omega
  have c02 : c0 < 4294967296 := by omega
  have HV := hide (show V = c1 * 4294967296 + c0 by omega)
  have HYA := hide (show Y = a * 4294967296 + b by omega)
  have a1 : 2147483648 ≤ a := by omega
  have na : ¬ (a : Int) = 0 := by omega
  have HAll := hide hall
  have HY := hide hY
  obtain ⟨q, P, r, eq, ew, ep, er, hq, hr⟩ := trial_eqs a0 (show U < 18446744073709551616 by omega)
  have tr0 := T1.first
  rw [hq, hr] at tr0
  have HT1 := hide T1
  have HTR := hide tr0
  have n1 : ¬ (y : Int) ≤ (hi : Int) := by omega
  have n2 : ¬ (y : Int) = 0 := by omega
  have n3 : ¬ (hi : Int) = 0 := by omega
  have e1 : ((y : Int) == 0) = false := by simpa using n2
  have e2 : ((hi : Int) == 0) = false := by simpa using n3
  have HS := hide hs
  clear hs T1 tr0 hq hr hall hY hL hU hor hV hH ht ha hb hc1 hc0 hN l64
  go_enter Tryz.func173, Tryz.ntmps173
  go_wp2_with fail
  refine (lz_any h2 HS.out _).mono ?_
  rintro e w1 ⟨rfl, rfl⟩
  go_wp2_with fail
  go_loopw [15, 16] (fun v15 v16 wr => ∃ q r : Nat, v15 = .int .u64 q ∧ v16 = .int .u64 r ∧ Trial Y a b U c1 q r ∧ w = wr) (fun v _ _ => (intOf v).toNat)
  case atStart => exact ⟨q, r, rfl, rfl, HTR.out, rfl⟩
  case round =>
    obtain ⟨q1, r1, rfl, rfl, tr1, rfl⟩ := hrel
    have ql1 := tr1.le
    have rl1 := tr1.lt
    have TR1 := hide tr1
    clear tr1
    by_cases gq1 : 4294967296 ≤ q1
    · have gi1 : (4294967296 : Int) ≤ (q1 : Int) := by omega
      have HW1 := hide gq1
      clear gq1
      obtain ⟨p1, t1, ep1, et1, hp1, ht1⟩ := less_eqs (show 1 ≤ q1 from (TR1.out.less HT1.out (.inl HW1.out)).1) ql1 rl1 a2
      by_cases gt1 : 4294967296 ≤ t1
      · have HQ1 := hide (show (U * 4294967296 + c1) / Y = p1 by rw [← hp1]; exact (TR1.out.stop HT1.out (.inl HW1.out) (by omega)).symm)
        have gj1 : (4294967296 : Int) ≤ (t1 : Int) := by omega
        clear hp1 ht1 gt1
        obtain ⟨R, hR⟩ : ∃ R, (U * 4294967296 + c1) % Y = R := ⟨_, rfl⟩
        have RY : R < Y := by rw [← hR]; exact Nat.mod_lt _ (by omega)
        obtain ⟨W1, W2, W3, eW1, eW2, eW3, eR⟩ := rest_eqs HQ1.out hR y2 (by omega)
        have Q1 : p1 < 4294967296 := by rw [← HQ1.out]; exact HT1.out.low
        have HR := hide hR
        obtain ⟨q, P, r, eq, ew, ep, er, hq, hr⟩ := trial_eqs a0 (show R < 18446744073709551616 by omega)
        have T2 : Two Y a b R c0 := ⟨HYA.out, a1, a2, b2, RY, c02⟩
        have tr0 := T2.first
        rw [hq, hr] at tr0
        have HT2 := hide T2
        have HTR2 := hide tr0
        clear hR tr0 T2 hq hr
        go_wp2_with fail
        go_loopw [16, 18] (fun v16 v15 wr => ∃ q r : Nat, v15 = .int .u64 q ∧ v16 = .int .u64 r ∧ Trial Y a b R c0 q r ∧ w = wr) (fun _ v _ => (intOf v).toNat)
        case atStart => exact ⟨q, r, rfl, rfl, HTR2.out, rfl⟩
        case round =>
          obtain ⟨q2, r2, rfl, rfl, tr2, rfl⟩ := hrel
          have ql2 := tr2.le
          have rl2 := tr2.lt
          have TR2 := hide tr2
          clear tr2
          by_cases gq2 : 4294967296 ≤ q2
          · have gi2 : (4294967296 : Int) ≤ (q2 : Int) := by omega
            have HW2 := hide gq2
            clear gq2
            obtain ⟨p2, t2, ep2, et2, hp2, ht2⟩ := less_eqs (show 1 ≤ q2 from (TR2.out.less HT2.out (.inl HW2.out)).1) ql2 rl2 a2
            by_cases gt2 : 4294967296 ≤ t2
            · have HQ2 := hide (show (R * 4294967296 + c0) / Y = p2 by rw [← hp2]; exact (TR2.out.stop HT2.out (.inl HW2.out) (by omega)).symm)
              have gj2 : (4294967296 : Int) ≤ (t2 : Int) := by omega
              clear hp2 ht2 gt2
              obtain ⟨R0, hR0⟩ : ∃ R0, (R * 4294967296 + c0) % Y = R0 := ⟨_, rfl⟩
              obtain ⟨X1, X2, X3, eX1, eX2, eX3, eR0⟩ := rest_eqs HQ2.out hR0 y2 (by omega)
              have Q0l : p2 < 4294967296 := by rw [← HQ2.out]; exact HT2.out.low
              obtain ⟨k1, k2⟩ := two_halves HV.out HAll.out HY.out (show 0 < y by omega) HQ1.out HR.out HQ2.out hR0
              have K1 := hide k1
              have K2 := hide k2
              obtain ⟨B1, eB1⟩ : ∃ B1 : Nat, IntKind.u64.wrap ((p1 : Int) * 4294967296) = (B1 : Int) := ⟨p1 * 4294967296, by rw [IntKind.wrap_u64]; omega⟩
              have eB2 : IntKind.u64.wrap ((B1 : Int) + (p2 : Int)) = ((N / y : Nat) : Int) := by rw [← K1.out, ← eB1, IntKind.wrap_u64, IntKind.wrap_u64]; omega
              have eB3 : (R0 : Int) / 2 ^ s = ((N % y : Nat) : Int) := by rw [K2.out, ← mul_pow, Int.mul_ediv_cancel _ (pow_ne s)]
              obtain ⟨NQ, hNQ⟩ : ∃ NQ, N / y = NQ := ⟨_, rfl⟩
              obtain ⟨NR, hNR⟩ : ∃ NR, N % y = NR := ⟨_, rfl⟩
              rw [hNQ] at eB2
              rw [hNR] at eB3
              have HNQ := hide hNQ
              have HNR := hide hNR
              clear hR0 k1 k2 hNQ hNR
              go_wp2_with fail
              go_ret2
              exact ⟨by rw [HNQ.out, HNR.out]; rfl, rfl⟩
            · have TN2 := hide (show Trial Y a b R c0 p2 t2 by rw [← hp2, ← ht2]; exact TR2.out.on HT2.out (.inl HW2.out) (by omega))
              have HM2 : p2 < q2 := by have := (TR2.out.less HT2.out (.inl HW2.out)).1; omega
              have gj2 : ¬ (4294967296 : Int) ≤ (t2 : Int) := by omega
              clear hp2 ht2 gt2
              go_wp2_with fail
              go_roundw
              case rel => exact ⟨p2, t2, rfl, rfl, TN2.out, by trivial⟩
              case measure => simp [intOf]; omega
          · obtain ⟨P2, M2, K2, eP2, eM2, eK2, hP2, hK2⟩ := ask_eqs (show q2 < 4294967296 by omega) b2 rl2 c02
            have gi2 : ¬ (4294967296 : Int) ≤ (q2 : Int) := by omega
            clear gq2
            by_cases gg2 : K2 < P2
            · have HW2 := hide (show 4294967296 * r2 + c0 < q2 * b by rw [hK2, hP2]; exact gg2)
              have gk2 : (K2 : Int) < (P2 : Int) := by omega
              clear hK2 hP2 gg2
              obtain ⟨p2, t2, ep2, et2, hp2, ht2⟩ := less_eqs (show 1 ≤ q2 from (TR2.out.less HT2.out (.inr HW2.out)).1) ql2 rl2 a2
              by_cases gt2 : 4294967296 ≤ t2
              · have HQ2 := hide (show (R * 4294967296 + c0) / Y = p2 by rw [← hp2]; exact (TR2.out.stop HT2.out (.inr HW2.out) (by omega)).symm)
                have gj2 : (4294967296 : Int) ≤ (t2 : Int) := by omega
                clear hp2 ht2 gt2
                obtain ⟨R0, hR0⟩ : ∃ R0, (R * 4294967296 + c0) % Y = R0 := ⟨_, rfl⟩
                obtain ⟨X1, X2, X3, eX1, eX2, eX3, eR0⟩ := rest_eqs HQ2.out hR0 y2 (by omega)
                have Q0l : p2 < 4294967296 := by rw [← HQ2.out]; exact HT2.out.low
                obtain ⟨k1, k2⟩ := two_halves HV.out HAll.out HY.out (show 0 < y by omega) HQ1.out HR.out HQ2.out hR0
                have K1 := hide k1
                have K2 := hide k2
                obtain ⟨B1, eB1⟩ : ∃ B1 : Nat, IntKind.u64.wrap ((p1 : Int) * 4294967296) = (B1 : Int) := ⟨p1 * 4294967296, by rw [IntKind.wrap_u64]; omega⟩
                have eB2 : IntKind.u64.wrap ((B1 : Int) + (p2 : Int)) = ((N / y : Nat) : Int) := by rw [← K1.out, ← eB1, IntKind.wrap_u64, IntKind.wrap_u64]; omega
                have eB3 : (R0 : Int) / 2 ^ s = ((N % y : Nat) : Int) := by rw [K2.out, ← mul_pow, Int.mul_ediv_cancel _ (pow_ne s)]
                obtain ⟨NQ, hNQ⟩ : ∃ NQ, N / y = NQ := ⟨_, rfl⟩
                obtain ⟨NR, hNR⟩ : ∃ NR, N % y = NR := ⟨_, rfl⟩
                rw [hNQ] at eB2
                rw [hNR] at eB3
                have HNQ := hide hNQ
                have HNR := hide hNR
                clear hR0 k1 k2 hNQ hNR
                go_wp2_with fail
                go_ret2
                exact ⟨by rw [HNQ.out, HNR.out]; rfl, rfl⟩
              · have TN2 := hide (show Trial Y a b R c0 p2 t2 by rw [← hp2, ← ht2]; exact TR2.out.on HT2.out (.inr HW2.out) (by omega))
                have HM2 : p2 < q2 := by have := (TR2.out.less HT2.out (.inr HW2.out)).1; omega
                have gj2 : ¬ (4294967296 : Int) ≤ (t2 : Int) := by omega
                clear hp2 ht2 gt2
                go_wp2_with fail
                go_roundw
                case rel => exact ⟨p2, t2, rfl, rfl, TN2.out, by trivial⟩
                case measure => simp [intOf]; omega
            · have HQ2 := hide (show (R * 4294967296 + c0) / Y = q2 from (TR2.out.done HT2.out (by rw [hK2, hP2]; exact gg2)).symm)
              have gk2 : ¬ (K2 : Int) < (P2 : Int) := by omega
              clear hK2 hP2 gg2
              obtain ⟨R0, hR0⟩ : ∃ R0, (R * 4294967296 + c0) % Y = R0 := ⟨_, rfl⟩
              obtain ⟨X1, X2, X3, eX1, eX2, eX3, eR0⟩ := rest_eqs HQ2.out hR0 y2 (by omega)
              have Q0l : q2 < 4294967296 := by rw [← HQ2.out]; exact HT2.out.low
              obtain ⟨k1, k2⟩ := two_halves HV.out HAll.out HY.out (show 0 < y by omega) HQ1.out HR.out HQ2.out hR0
              have K1 := hide k1
              have K2 := hide k2
              obtain ⟨B1, eB1⟩ : ∃ B1 : Nat, IntKind.u64.wrap ((p1 : Int) * 4294967296) = (B1 : Int) := ⟨p1 * 4294967296, by rw [IntKind.wrap_u64]; omega⟩
              have eB2 : IntKind.u64.wrap ((B1 : Int) + (q2 : Int)) = ((N / y : Nat) : Int) := by rw [← K1.out, ← eB1, IntKind.wrap_u64, IntKind.wrap_u64]; omega
              have eB3 : (R0 : Int) / 2 ^ s = ((N % y : Nat) : Int) := by rw [K2.out, ← mul_pow, Int.mul_ediv_cancel _ (pow_ne s)]
              obtain ⟨NQ, hNQ⟩ : ∃ NQ, N / y = NQ := ⟨_, rfl⟩
              obtain ⟨NR, hNR⟩ : ∃ NR, N % y = NR := ⟨_, rfl⟩
              rw [hNQ] at eB2
              rw [hNR] at eB3
              have HNQ := hide hNQ
              have HNR := hide hNR
              clear hR0 k1 k2 hNQ hNR
              go_wp2_with fail
              go_ret2
              exact ⟨by rw [HNQ.out, HNR.out]; rfl, rfl⟩
      · have TN1 := hide (show Trial Y a b U c1 p1 t1 by rw [← hp1, ← ht1]; exact TR1.out.on HT1.out (.inl HW1.out) (by omega))
        have HM1 : p1 < q1 := by have := (TR1.out.less HT1.out (.inl HW1.out)).1; omega
        have gj1 : ¬ (4294967296 : Int) ≤ (t1 : Int) := by omega
        clear hp1 ht1 gt1
        go_wp2_with fail
        go_roundw
        case rel => exact ⟨p1, t1, rfl, rfl, TN1.out, by trivial⟩
        case measure => simp [intOf]; omega
    · obtain ⟨P1, M1, K1, eP1, eM1, eK1, hP1, hK1⟩ := ask_eqs (show q1 < 4294967296 by omega) b2 rl1 c12
      have gi1 : ¬ (4294967296 : Int) ≤ (q1 : Int) := by omega
      clear gq1
      by_cases gg1 : K1 < P1
      · have HW1 := hide (show 4294967296 * r1 + c1 < q1 * b by rw [hK1, hP1]; exact gg1)
        have gk1 : (K1 : Int) < (P1 : Int) := by omega
        clear hK1 hP1 gg1
        obtain ⟨p1, t1, ep1, et1, hp1, ht1⟩ := less_eqs (show 1 ≤ q1 from (TR1.out.less HT1.out (.inr HW1.out)).1) ql1 rl1 a2
        by_cases gt1 : 4294967296 ≤ t1
        · have HQ1 := hide (show (U * 4294967296 + c1) / Y = p1 by rw [← hp1]; exact (TR1.out.stop HT1.out (.inr HW1.out) (by omega)).symm)
          have gj1 : (4294967296 : Int) ≤ (t1 : Int) := by omega
          clear hp1 ht1 gt1
          obtain ⟨R, hR⟩ : ∃ R, (U * 4294967296 + c1) % Y = R := ⟨_, rfl⟩
          have RY : R < Y := by rw [← hR]; exact Nat.mod_lt _ (by omega)
          obtain ⟨W1, W2, W3, eW1, eW2, eW3, eR⟩ := rest_eqs HQ1.out hR y2 (by omega)
          have Q1 : p1 < 4294967296 := by rw [← HQ1.out]; exact HT1.out.low
          have HR := hide hR
          obtain ⟨q, P, r, eq, ew, ep, er, hq, hr⟩ := trial_eqs a0 (show R < 18446744073709551616 by omega)
          have T2 : Two Y a b R c0 := ⟨HYA.out, a1, a2, b2, RY, c02⟩
          have tr0 := T2.first
          rw [hq, hr] at tr0
          have HT2 := hide T2
          have HTR2 := hide tr0
          clear hR tr0 T2 hq hr
          go_wp2_with fail
          go_loopw [16, 18] (fun v16 v15 wr => ∃ q r : Nat, v15 = .int .u64 q ∧ v16 = .int .u64 r ∧ Trial Y a b R c0 q r ∧ w = wr) (fun _ v _ => (intOf v).toNat)
          case atStart => exact ⟨q, r, rfl, rfl, HTR2.out, rfl⟩
          case round =>
            obtain ⟨q2, r2, rfl, rfl, tr2, rfl⟩ := hrel
            have ql2 := tr2.le
            have rl2 := tr2.lt
            have TR2 := hide tr2
            clear tr2
            by_cases gq2 : 4294967296 ≤ q2
            · have gi2 : (4294967296 : Int) ≤ (q2 : Int) := by omega
              have HW2 := hide gq2
              clear gq2
              obtain ⟨p2, t2, ep2, et2, hp2, ht2⟩ := less_eqs (show 1 ≤ q2 from (TR2.out.less HT2.out (.inl HW2.out)).1) ql2 rl2 a2
              by_cases gt2 : 4294967296 ≤ t2
              · have HQ2 := hide (show (R * 4294967296 + c0) / Y = p2 by rw [← hp2]; exact (TR2.out.stop HT2.out (.inl HW2.out) (by omega)).symm)
                have gj2 : (4294967296 : Int) ≤ (t2 : Int) := by omega
                clear hp2 ht2 gt2
                obtain ⟨R0, hR0⟩ : ∃ R0, (R * 4294967296 + c0) % Y = R0 := ⟨_, rfl⟩
                obtain ⟨X1, X2, X3, eX1, eX2, eX3, eR0⟩ := rest_eqs HQ2.out hR0 y2 (by omega)
                have Q0l : p2 < 4294967296 := by rw [← HQ2.out]; exact HT2.out.low
                obtain ⟨k1, k2⟩ := two_halves HV.out HAll.out HY.out (show 0 < y by omega) HQ1.out HR.out HQ2.out hR0
                have K1 := hide k1
                have K2 := hide k2
                obtain ⟨B1, eB1⟩ : ∃ B1 : Nat, IntKind.u64.wrap ((p1 : Int) * 4294967296) = (B1 : Int) := ⟨p1 * 4294967296, by rw [IntKind.wrap_u64]; omega⟩
                have eB2 : IntKind.u64.wrap ((B1 : Int) + (p2 : Int)) = ((N / y : Nat) : Int) := by rw [← K1.out, ← eB1, IntKind.wrap_u64, IntKind.wrap_u64]; omega
                have eB3 : (R0 : Int) / 2 ^ s = ((N % y : Nat) : Int) := by rw [K2.out, ← mul_pow, Int.mul_ediv_cancel _ (pow_ne s)]
                obtain ⟨NQ, hNQ⟩ : ∃ NQ, N / y = NQ := ⟨_, rfl⟩
                obtain ⟨NR, hNR⟩ : ∃ NR, N % y = NR := ⟨_, rfl⟩
                rw [hNQ] at eB2
                rw [hNR] at eB3
                have HNQ := hide hNQ
                have HNR := hide hNR
                clear hR0 k1 k2 hNQ hNR
                go_wp2_with fail
                go_ret2
                exact ⟨by rw [HNQ.out, HNR.out]; rfl, rfl⟩
              · have TN2 := hide (show Trial Y a b R c0 p2 t2 by rw [← hp2, ← ht2]; exact TR2.out.on HT2.out (.inl HW2.out) (by omega))
                have HM2 : p2 < q2 := by have := (TR2.out.less HT2.out (.inl HW2.out)).1; omega
                have gj2 : ¬ (4294967296 : Int) ≤ (t2 : Int) := by omega
                clear hp2 ht2 gt2
                go_wp2_with fail
                go_roundw
                case rel => exact ⟨p2, t2, rfl, rfl, TN2.out, by trivial⟩
                case measure => simp [intOf]; omega
            · obtain ⟨P2, M2, K2, eP2, eM2, eK2, hP2, hK2⟩ := ask_eqs (show q2 < 4294967296 by omega) b2 rl2 c02
              have gi2 : ¬ (4294967296 : Int) ≤ (q2 : Int) := by omega
              clear gq2
              by_cases gg2 : K2 < P2
              · have HW2 := hide (show 4294967296 * r2 + c0 < q2 * b by rw [hK2, hP2]; exact gg2)
                have gk2 : (K2 : Int) < (P2 : Int) := by omega
                clear hK2 hP2 gg2
                obtain ⟨p2, t2, ep2, et2, hp2, ht2⟩ := less_eqs (show 1 ≤ q2 from (TR2.out.less HT2.out (.inr HW2.out)).1) ql2 rl2 a2
                by_cases gt2 : 4294967296 ≤ t2
                · have HQ2 := hide (show (R * 4294967296 + c0) / Y = p2 by rw [← hp2]; exact (TR2.out.stop HT2.out (.inr HW2.out) (by omega)).symm)
                  have gj2 : (4294967296 : Int) ≤ (t2 : Int) := by omega
                  clear hp2 ht2 gt2
                  obtain ⟨R0, hR0⟩ : ∃ R0, (R * 4294967296 + c0) % Y = R0 := ⟨_, rfl⟩
                  obtain ⟨X1, X2, X3, eX1, eX2, eX3, eR0⟩ := rest_eqs HQ2.out hR0 y2 (by omega)
                  have Q0l : p2 < 4294967296 := by rw [← HQ2.out]; exact HT2.out.low
                  obtain ⟨k1, k2⟩ := two_halves HV.out HAll.out HY.out (show 0 < y by omega) HQ1.out HR.out HQ2.out hR0
                  have K1 := hide k1
                  have K2 := hide k2
                  obtain ⟨B1, eB1⟩ : ∃ B1 : Nat, IntKind.u64.wrap ((p1 : Int) * 4294967296) = (B1 : Int) := ⟨p1 * 4294967296, by rw [IntKind.wrap_u64]; omega⟩
                  have eB2 : IntKind.u64.wrap ((B1 : Int) + (p2 : Int)) = ((N / y : Nat) : Int) := by rw [← K1.out, ← eB1, IntKind.wrap_u64, IntKind.wrap_u64]; omega
                  have eB3 : (R0 : Int) / 2 ^ s = ((N % y : Nat) : Int) := by rw [K2.out, ← mul_pow, Int.mul_ediv_cancel _ (pow_ne s)]
                  obtain ⟨NQ, hNQ⟩ : ∃ NQ, N / y = NQ := ⟨_, rfl⟩
                  obtain ⟨NR, hNR⟩ : ∃ NR, N % y = NR := ⟨_, rfl⟩
                  rw [hNQ] at eB2
                  rw [hNR] at eB3
                  have HNQ := hide hNQ
                  have HNR := hide hNR
                  clear hR0 k1 k2 hNQ hNR
                  go_wp2_with fail
                  go_ret2
                  exact ⟨by rw [HNQ.out, HNR.out]; rfl, rfl⟩
                · have TN2 := hide (show Trial Y a b R c0 p2 t2 by rw [← hp2, ← ht2]; exact TR2.out.on HT2.out (.inr HW2.out) (by omega))
                  have HM2 : p2 < q2 := by have := (TR2.out.less HT2.out (.inr HW2.out)).1; omega
                  have gj2 : ¬ (4294967296 : Int) ≤ (t2 : Int) := by omega
                  clear hp2 ht2 gt2
                  go_wp2_with fail
                  go_roundw
                  case rel => exact ⟨p2, t2, rfl, rfl, TN2.out, by trivial⟩
                  case measure => simp [intOf]; omega
              · have HQ2 := hide (show (R * 4294967296 + c0) / Y = q2 from (TR2.out.done HT2.out (by rw [hK2, hP2]; exact gg2)).symm)
                have gk2 : ¬ (K2 : Int) < (P2 : Int) := by omega
                clear hK2 hP2 gg2
                obtain ⟨R0, hR0⟩ : ∃ R0, (R * 4294967296 + c0) % Y = R0 := ⟨_, rfl⟩
                obtain ⟨X1, X2, X3, eX1, eX2, eX3, eR0⟩ := rest_eqs HQ2.out hR0 y2 (by omega)
                have Q0l : q2 < 4294967296 := by rw [← HQ2.out]; exact HT2.out.low
                obtain ⟨k1, k2⟩ := two_halves HV.out HAll.out HY.out (show 0 < y by omega) HQ1.out HR.out HQ2.out hR0
                have K1 := hide k1
                have K2 := hide k2
                obtain ⟨B1, eB1⟩ : ∃ B1 : Nat, IntKind.u64.wrap ((p1 : Int) * 4294967296) = (B1 : Int) := ⟨p1 * 4294967296, by rw [IntKind.wrap_u64]; omega⟩
                have eB2 : IntKind.u64.wrap ((B1 : Int) + (q2 : Int)) = ((N / y : Nat) : Int) := by rw [← K1.out, ← eB1, IntKind.wrap_u64, IntKind.wrap_u64]; omega
                have eB3 : (R0 : Int) / 2 ^ s = ((N % y : Nat) : Int) := by rw [K2.out, ← mul_pow, Int.mul_ediv_cancel _ (pow_ne s)]
                obtain ⟨NQ, hNQ⟩ : ∃ NQ, N / y = NQ := ⟨_, rfl⟩
                obtain ⟨NR, hNR⟩ : ∃ NR, N % y = NR := ⟨_, rfl⟩
                rw [hNQ] at eB2
                rw [hNR] at eB3
                have HNQ := hide hNQ
                have HNR := hide hNR
                clear hR0 k1 k2 hNQ hNR
                go_wp2_with fail
                go_ret2
                exact ⟨by rw [HNQ.out, HNR.out]; rfl, rfl⟩
        · have TN1 := hide (show Trial Y a b U c1 p1 t1 by rw [← hp1, ← ht1]; exact TR1.out.on HT1.out (.inr HW1.out) (by omega))
          have HM1 : p1 < q1 := by have := (TR1.out.less HT1.out (.inr HW1.out)).1; omega
          have gj1 : ¬ (4294967296 : Int) ≤ (t1 : Int) := by omega
          clear hp1 ht1 gt1
          go_wp2_with fail
          go_roundw
          case rel => exact ⟨p1, t1, rfl, rfl, TN1.out, by trivial⟩
          case measure => simp [intOf]; omega
      · have HQ1 := hide (show (U * 4294967296 + c1) / Y = q1 from (TR1.out.done HT1.out (by rw [hK1, hP1]; exact gg1)).symm)
        have gk1 : ¬ (K1 : Int) < (P1 : Int) := by omega
        clear hK1 hP1 gg1
        obtain ⟨R, hR⟩ : ∃ R, (U * 4294967296 + c1) % Y = R := ⟨_, rfl⟩
        have RY : R < Y := by rw [← hR]; exact Nat.mod_lt _ (by omega)
        obtain ⟨W1, W2, W3, eW1, eW2, eW3, eR⟩ := rest_eqs HQ1.out hR y2 (by omega)
        have Q1 : q1 < 4294967296 := by rw [← HQ1.out]; exact HT1.out.low
        have HR := hide hR
        obtain ⟨q, P, r, eq, ew, ep, er, hq, hr⟩ := trial_eqs a0 (show R < 18446744073709551616 by omega)
        have T2 : Two Y a b R c0 := ⟨HYA.out, a1, a2, b2, RY, c02⟩
        have tr0 := T2.first
        rw [hq, hr] at tr0
        have HT2 := hide T2
        have HTR2 := hide tr0
        clear hR tr0 T2 hq hr
        go_wp2_with fail
        go_loopw [16, 18] (fun v16 v15 wr => ∃ q r : Nat, v15 = .int .u64 q ∧ v16 = .int .u64 r ∧ Trial Y a b R c0 q r ∧ w = wr) (fun _ v _ => (intOf v).toNat)
        case atStart => exact ⟨q, r, rfl, rfl, HTR2.out, rfl⟩
        case round =>
          obtain ⟨q2, r2, rfl, rfl, tr2, rfl⟩ := hrel
          have ql2 := tr2.le
          have rl2 := tr2.lt
          have TR2 := hide tr2
          clear tr2
          by_cases gq2 : 4294967296 ≤ q2
          · have gi2 : (4294967296 : Int) ≤ (q2 : Int) := by omega
            have HW2 := hide gq2
            clear gq2
            obtain ⟨p2, t2, ep2, et2, hp2, ht2⟩ := less_eqs (show 1 ≤ q2 from (TR2.out.less HT2.out (.inl HW2.out)).1) ql2 rl2 a2
            by_cases gt2 : 4294967296 ≤ t2
            · have HQ2 := hide (show (R * 4294967296 + c0) / Y = p2 by rw [← hp2]; exact (TR2.out.stop HT2.out (.inl HW2.out) (by omega)).symm)
              have gj2 : (4294967296 : Int) ≤ (t2 : Int) := by omega
              clear hp2 ht2 gt2
              obtain ⟨R0, hR0⟩ : ∃ R0, (R * 4294967296 + c0) % Y = R0 := ⟨_, rfl⟩
              obtain ⟨X1, X2, X3, eX1, eX2, eX3, eR0⟩ := rest_eqs HQ2.out hR0 y2 (by omega)
              have Q0l : p2 < 4294967296 := by rw [← HQ2.out]; exact HT2.out.low
              obtain ⟨k1, k2⟩ := two_halves HV.out HAll.out HY.out (show 0 < y by omega) HQ1.out HR.out HQ2.out hR0
              have K1 := hide k1
              have K2 := hide k2
              obtain ⟨B1, eB1⟩ : ∃ B1 : Nat, IntKind.u64.wrap ((q1 : Int) * 4294967296) = (B1 : Int) := ⟨q1 * 4294967296, by rw [IntKind.wrap_u64]; omega⟩
              have eB2 : IntKind.u64.wrap ((B1 : Int) + (p2 : Int)) = ((N / y : Nat) : Int) := by rw [← K1.out, ← eB1, IntKind.wrap_u64, IntKind.wrap_u64]; omega
              have eB3 : (R0 : Int) / 2 ^ s = ((N % y : Nat) : Int) := by rw [K2.out, ← mul_pow, Int.mul_ediv_cancel _ (pow_ne s)]
              obtain ⟨NQ, hNQ⟩ : ∃ NQ, N / y = NQ := ⟨_, rfl⟩
              obtain ⟨NR, hNR⟩ : ∃ NR, N % y = NR := ⟨_, rfl⟩
              rw [hNQ] at eB2
              rw [hNR] at eB3
              have HNQ := hide hNQ
              have HNR := hide hNR
              clear hR0 k1 k2 hNQ hNR
              go_wp2_with fail
              go_ret2
              exact ⟨by rw [HNQ.out, HNR.out]; rfl, rfl⟩
            · have TN2 := hide (show Trial Y a b R c0 p2 t2 by rw [← hp2, ← ht2]; exact TR2.out.on HT2.out (.inl HW2.out) (by omega))
              have HM2 : p2 < q2 := by have := (TR2.out.less HT2.out (.inl HW2.out)).1; omega
              have gj2 : ¬ (4294967296 : Int) ≤ (t2 : Int) := by omega
              clear hp2 ht2 gt2
              go_wp2_with fail
              go_roundw
              case rel => exact ⟨p2, t2, rfl, rfl, TN2.out, by trivial⟩
              case measure => simp [intOf]; omega
          · obtain ⟨P2, M2, K2, eP2, eM2, eK2, hP2, hK2⟩ := ask_eqs (show q2 < 4294967296 by omega) b2 rl2 c02
            have gi2 : ¬ (4294967296 : Int) ≤ (q2 : Int) := by omega
            clear gq2
            by_cases gg2 : K2 < P2
            · have HW2 := hide (show 4294967296 * r2 + c0 < q2 * b by rw [hK2, hP2]; exact gg2)
              have gk2 : (K2 : Int) < (P2 : Int) := by omega
              clear hK2 hP2 gg2
              obtain ⟨p2, t2, ep2, et2, hp2, ht2⟩ := less_eqs (show 1 ≤ q2 from (TR2.out.less HT2.out (.inr HW2.out)).1) ql2 rl2 a2
              by_cases gt2 : 4294967296 ≤ t2
              · have HQ2 := hide (show (R * 4294967296 + c0) / Y = p2 by rw [← hp2]; exact (TR2.out.stop HT2.out (.inr HW2.out) (by omega)).symm)
                have gj2 : (4294967296 : Int) ≤ (t2 : Int) := by omega
                clear hp2 ht2 gt2
                obtain ⟨R0, hR0⟩ : ∃ R0, (R * 4294967296 + c0) % Y = R0 := ⟨_, rfl⟩
                obtain ⟨X1, X2, X3, eX1, eX2, eX3, eR0⟩ := rest_eqs HQ2.out hR0 y2 (by omega)
                have Q0l : p2 < 4294967296 := by rw [← HQ2.out]; exact HT2.out.low
                obtain ⟨k1, k2⟩ := two_halves HV.out HAll.out HY.out (show 0 < y by omega) HQ1.out HR.out HQ2.out hR0
                have K1 := hide k1
                have K2 := hide k2
                obtain ⟨B1, eB1⟩ : ∃ B1 : Nat, IntKind.u64.wrap ((q1 : Int) * 4294967296) = (B1 : Int) := ⟨q1 * 4294967296, by rw [IntKind.wrap_u64]; omega⟩
                have eB2 : IntKind.u64.wrap ((B1 : Int) + (p2 : Int)) = ((N / y : Nat) : Int) := by rw [← K1.out, ← eB1, IntKind.wrap_u64, IntKind.wrap_u64]; omega
                have eB3 : (R0 : Int) / 2 ^ s = ((N % y : Nat) : Int) := by rw [K2.out, ← mul_pow, Int.mul_ediv_cancel _ (pow_ne s)]
                obtain ⟨NQ, hNQ⟩ : ∃ NQ, N / y = NQ := ⟨_, rfl⟩
                obtain ⟨NR, hNR⟩ : ∃ NR, N % y = NR := ⟨_, rfl⟩
                rw [hNQ] at eB2
                rw [hNR] at eB3
                have HNQ := hide hNQ
                have HNR := hide hNR
                clear hR0 k1 k2 hNQ hNR
                go_wp2_with fail
                go_ret2
                exact ⟨by rw [HNQ.out, HNR.out]; rfl, rfl⟩
              · have TN2 := hide (show Trial Y a b R c0 p2 t2 by rw [← hp2, ← ht2]; exact TR2.out.on HT2.out (.inr HW2.out) (by omega))
                have HM2 : p2 < q2 := by have := (TR2.out.less HT2.out (.inr HW2.out)).1; omega
                have gj2 : ¬ (4294967296 : Int) ≤ (t2 : Int) := by omega
                clear hp2 ht2 gt2
                go_wp2_with fail
                go_roundw
                case rel => exact ⟨p2, t2, rfl, rfl, TN2.out, by trivial⟩
                case measure => simp [intOf]; omega
            · have HQ2 := hide (show (R * 4294967296 + c0) / Y = q2 from (TR2.out.done HT2.out (by rw [hK2, hP2]; exact gg2)).symm)
              have gk2 : ¬ (K2 : Int) < (P2 : Int) := by omega
              clear hK2 hP2 gg2
              obtain ⟨R0, hR0⟩ : ∃ R0, (R * 4294967296 + c0) % Y = R0 := ⟨_, rfl⟩
              obtain ⟨X1, X2, X3, eX1, eX2, eX3, eR0⟩ := rest_eqs HQ2.out hR0 y2 (by omega)
              have Q0l : q2 < 4294967296 := by rw [← HQ2.out]; exact HT2.out.low
              obtain ⟨k1, k2⟩ := two_halves HV.out HAll.out HY.out (show 0 < y by omega) HQ1.out HR.out HQ2.out hR0
              have K1 := hide k1
              have K2 := hide k2
              obtain ⟨B1, eB1⟩ : ∃ B1 : Nat, IntKind.u64.wrap ((q1 : Int) * 4294967296) = (B1 : Int) := ⟨q1 * 4294967296, by rw [IntKind.wrap_u64]; omega⟩
              have eB2 : IntKind.u64.wrap ((B1 : Int) + (q2 : Int)) = ((N / y : Nat) : Int) := by rw [← K1.out, ← eB1, IntKind.wrap_u64, IntKind.wrap_u64]; omega
              have eB3 : (R0 : Int) / 2 ^ s = ((N % y : Nat) : Int) := by rw [K2.out, ← mul_pow, Int.mul_ediv_cancel _ (pow_ne s)]
              obtain ⟨NQ, hNQ⟩ : ∃ NQ, N / y = NQ := ⟨_, rfl⟩
              obtain ⟨NR, hNR⟩ : ∃ NR, N % y = NR := ⟨_, rfl⟩
              rw [hNQ] at eB2
              rw [hNR] at eB3
              have HNQ := hide hNQ
              have HNR := hide hNR
              clear hR0 k1 k2 hNQ hNR
              go_wp2_with fail
              go_ret2
              exact ⟨by rw [HNQ.out, HNR.out]; rfl, rfl⟩
end Go.Proofs.YtjpbjghdplbdcaaGreatDoor
end
