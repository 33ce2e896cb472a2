/- Proves the parts of the claim that its last text joins: BottomP, Bot, DivP. Conditions: those that each theorem names. -/
import Derived.Test.YtjpbjghdplbdcaaGreatDoorM05
import Derived.Test.YtjpbjghdplbdcaaGreatDoorM01
import Derived.Test.YtjpbjghdplbdcaaGreatDoorM06
import Derived.Test.YtjpbjghdplbdcaaGreatDoorM04
import Derived.Lib.BitFns
section
namespace Go.Proofs.YtjpbjghdplbdcaaGreatDoor
abbrev Up (l : List Int) : Prop := l.Pairwise (· < ·)
def insU (n : Int) : List Int → List Int
  | [] => [n]
  | x :: l => if x < n then x :: insU n l else if x = n then x :: l else n :: x :: l
theorem insU_mem (n : Int) : ∀ (l : List Int) (z : Int), z ∈ insU n l ↔ z = n ∨ z ∈ l
  | [], z => by simp [insU]
  | x :: l, z => by
    unfold insU
    split
    · rw [List.mem_cons, insU_mem n l z, List.mem_cons]
      constructor
      · rintro (h | h | h) <;> simp [h]
      · rintro (h | h | h) <;> simp [h]
    · split
      · rename_i h; subst h
        rw [List.mem_cons]
        constructor
        · intro h; exact .inr h
        · rintro (h | h)
          · exact .inl h
          · exact h
      · simp
theorem insU_up {n : Int} : ∀ {l : List Int}, Up l → Up (insU n l)
  | [], _ => by simp [insU, Up]
  | x :: l, h => by
    rw [Up, List.pairwise_cons] at h
    unfold insU
    split
    · rename_i hx
      rw [Up, List.pairwise_cons]
      refine ⟨fun z hz => ?_, insU_up h.2⟩
      rcases (insU_mem n l z).1 hz with e | e
      · omega
      · exact h.1 z e
    · split
      · rw [Up, List.pairwise_cons]; exact h
      · rename_i h1 h2
        rw [Up, List.pairwise_cons, List.pairwise_cons]
        refine ⟨fun z hz => ?_, h⟩
        rcases List.mem_cons.1 hz with e | e
        · omega
        · have := h.1 z e; omega
theorem insU_at {n : Int} : ∀ {l : List Int} {i : Nat}, i ≤ l.length → (∀ x ∈ l.take i, x < n) → (∀ x ∈ l.drop i, n < x) → insU n l = l.take i ++ n :: l.drop i
  | [], i, hi, _, _ => by
    have : i = 0 := by simpa using hi
    subst this; rfl
  | x :: l, 0, _, _, h2 => by
    have := h2 x (by simp)
    unfold insU
    rw [if_neg (by omega), if_neg (by omega)]; rfl
  | x :: l, i + 1, hi, h1, h2 => by
    have hx := h1 x (by simp)
    unfold insU
    rw [if_pos hx, insU_at (i := i) (by simpa using hi) (fun y hy => h1 y (by simp [hy])) (fun y hy => h2 y (by simpa using hy))]
    rfl
theorem insU_there {n : Int} : ∀ {l : List Int}, Up l → n ∈ l → insU n l = l
  | [], _, h => by cases h
  | x :: l, hu, h => by
    rw [Up, List.pairwise_cons] at hu
    unfold insU
    rcases List.mem_cons.1 h with e | e
    · subst e; rw [if_neg (by omega), if_pos rfl]
    · have := hu.1 n e
      rw [if_pos this, insU_there hu.2 e]
def isDr (x : Int) : Bool := decide (0 ≤ x ∧ x ≤ 72057594037927935)
def botStep (xs : List Int) (i : Nat) : Int := if isDr (xs.getD i 0) = true then (if i > 0 ∧ xs.getD i 0 ≤ xs.getD (i - 1) 0 then 3 else 0) else 1
def botErr (K : Int) (n : Nat) (xs : List Int) : Int := if K < 1 ∨ 40 < K then 1 else if K < n then 2 else faultTo (botStep xs) n
theorem botErr_ok {K : Int} {n : Nat} {xs : List Int} (hl : xs.length = n) (h : botErr K n xs = 0) : 1 ≤ K ∧ K ≤ 40 ∧ (n : Int) ≤ K ∧ Up xs ∧ ∀ x ∈ xs, 0 ≤ x ∧ x ≤ 72057594037927935 := by
  unfold botErr at h
  by_cases h1 : K < 1 ∨ 40 < K
  · rw [if_pos h1] at h; omega
  · rw [if_neg h1] at h
    by_cases h2 : K < n
    · rw [if_pos h2] at h; omega
    · rw [if_neg h2] at h
      have h3 := faultTo_all n h
      have hd : ∀ i, i < n → isDr (xs.getD i 0) = true := by
        intro i hi
        have := h3 i hi
        unfold botStep at this
        by_cases hc : isDr (xs.getD i 0) = true
        · exact hc
        · rw [if_neg hc] at this; omega
      have hs : ∀ i, i + 1 < n → xs.getD i 0 < xs.getD (i + 1) 0 := by
        intro i hi
        have := h3 (i + 1) hi
        unfold botStep at this
        rw [if_pos (hd _ hi), Nat.add_sub_cancel] at this
        by_cases hc : i + 1 > 0 ∧ xs.getD (i + 1) 0 ≤ xs.getD i 0
        · rw [if_pos hc] at this; omega
        · omega
      have hlt : ∀ d i, i + d + 1 < n → xs.getD i 0 < xs.getD (i + d + 1) 0 := by
        intro d
        induction d with
        | zero => exact fun i hi => hs i hi
        | succ d ih => intro i hi; have a := ih i (by omega); have b := hs (i + d + 1) (by omega); exact Int.lt_trans a b
      refine ⟨by omega, by omega, by omega, ?_, fun x hx => ?_⟩
      · rw [Up, List.pairwise_iff_getElem]
        intro i j hi hj hij
        have := hlt (j - i - 1) i (by omega)
        rw [show i + (j - i - 1) + 1 = j by omega] at this
        simpa [List.getD, List.getElem?_eq_getElem hi, List.getElem?_eq_getElem hj] using this
      · obtain ⟨i, hi⟩ := List.getElem?_of_mem hx
        have := hd i (by rw [← hl]; exact (List.getElem?_eq_some_iff.1 hi).1)
        rw [getD_of hi] at this
        exact of_decide_eq_true this
end Go.Proofs.YtjpbjghdplbdcaaGreatDoor
end
section
namespace Go.Proofs.YtjpbjghdplbdcaaGreatDoor
open Go.RowKit
def lastOf (xs : List Int) (k : Nat) : Int := if k = 0 then -1 else xs.getD (k - 1) 0
theorem lastOf_next {xs : List Int} {k : Nat} {x : Int} (h : xs[k]? = some x) : lastOf xs (k + 1) = x := by
  unfold lastOf
  rw [if_neg (by omega), Nat.add_sub_cancel, getD_of h]
theorem bot_draw {xs : List Int} {k : Nat} {x : Int} (h : xs[k]? = some x) (hd : isDraw x = false) : botStep xs k = 1 := by
  unfold botStep
  rw [getD_of h, if_neg (by show ¬ isDraw x = true; rw [hd]; simp)]
theorem bot_low {xs : List Int} {k : Nat} {x : Int} (h : xs[k]? = some x) (hd : isDraw x = true) (hl : x ≤ lastOf xs k) : botStep xs k = 3 := by
  unfold botStep
  have h0 := of_decide_eq_true (show decide (0 ≤ x ∧ x ≤ 72057594037927935) = true from hd)
  rw [getD_of h, if_pos (show isDr x = true from hd)]
  unfold lastOf at hl
  by_cases e : k = 0
  · rw [if_pos e] at hl; omega
  · rw [if_neg e] at hl
    rw [if_pos ⟨by omega, hl⟩]
theorem bot_ok {xs : List Int} {k : Nat} {x : Int} (h : xs[k]? = some x) (hd : isDraw x = true) (hl : ¬ x ≤ lastOf xs k) : botStep xs k = 0 := by
  unfold botStep
  rw [getD_of h, if_pos (show isDr x = true from hd)]
  unfold lastOf at hl
  by_cases e : k = 0
  · rw [if_neg (by omega)]
  · rw [if_neg e] at hl
    rw [if_neg (by omega)]
theorem botErr_1 {K : Int} {n : Nat} {xs : List Int} (h : K < 1 ∨ 40 < K) : botErr K n xs = 1 := if_pos h
theorem botErr_2 {K : Int} {n : Nat} {xs : List Int} (h : ¬ (K < 1 ∨ 40 < K)) (h2 : K < n) : botErr K n xs = 2 := by unfold botErr; rw [if_neg h, if_pos h2]
theorem botErr_at {K : Int} {n k : Nat} {xs : List Int} {c : Int} (h : ¬ (K < 1 ∨ 40 < K)) (h2 : ¬ K < n) (hk : k < n) (h0 : faultTo (botStep xs) k = 0) (hc : botStep xs k = c) (hne : c ≠ 0) : botErr K n xs = c := by
  unfold botErr; rw [if_neg h, if_neg h2]; exact faultTo_bad h0 hc hne n hk
theorem botErr_0 {K : Int} {n : Nat} {xs : List Int} (h : ¬ (K < 1 ∨ 40 < K)) (h2 : ¬ K < n) (h0 : faultTo (botStep xs) n = 0) : botErr K n xs = 0 := by unfold botErr; rw [if_neg h, if_neg h2, h0]
section
variable {A : Option Addr} {n c : Nat} {xs : List Int} {w : World} {K : Int}
set_option maxRecDepth 20000 in
set_option maxHeartbeats 1600000 in
theorem botcheck_any (h : Si w A n c xs) :
    Calls Tryz.prog 239 #[.agg #[.int .i64 K, .slice A n c]] w fun e w' => e = .returned (.int .i64 (botErr K n xs)) ∧ Below w.heap.size w w' := by
  have hm := h.len_max
  have b0 := Blk.new w 47 #[.int .i64 K, .slice A n c]
  have hb0 : Below w.heap.size w (w.alloc (.cells #[.int .i64 K, .slice A n c] 47)) := by repeat' (first | assumption | with_reducible exact Below.refl _ _ | with_reducible apply Below.drew | with_reducible apply below_drewN | with_reducible apply below_alloc | with_reducible refine below_set ?_ ?_ _ | (simp only [World.size_alloc, World.heap_drewN]; omega) | (simp; omega))
  have h0 := h.on hb0
  have c0 := b0.at_ (i := 0) (u := .int .i64 K) rfl
  have c1 := b0.at_ (i := 1) (u := .slice A n c) rfl
  by_cases g1 : K < 1 ∨ 40 < K
  · rw [botErr_1 g1]
    rcases g1 with g1 | g1
    · go_enter Tryz.func239, Tryz.ntmps239
      go_wp2_with fail
      go_ret
      exact ⟨rfl, hb0⟩
    · have g2 : ¬ K < 1 := by omega
      go_enter Tryz.func239, Tryz.ntmps239
      go_wp2_with fail
      go_ret
      exact ⟨rfl, hb0⟩
  · have G1 := hide g1
    have g3 : ¬ K < 1 := by omega
    have g4 : ¬ 40 < K := by omega
    clear g1
    by_cases g2 : K < n
    · rw [botErr_2 G1.out g2]
      go_enter Tryz.func239, Tryz.ntmps239
      go_wp2_with fail
      go_ret
      exact ⟨rfl, hb0⟩
    · have G2 := hide g2
      go_enter Tryz.func239, Tryz.ntmps239
      go_wp2_with fail
      go_loop [22] (fun i => ∃ k : Nat, k ≤ n ∧ i = .int .i64 k ∧ faultTo (botStep xs) k = 0) (fun i => n - (intOf i).toNat)
      case atStart => exact ⟨0, by omega, rfl, rfl⟩
      case round =>
        obtain ⟨k, hk, rfl, hx⟩ := hrel
        have HX := hide hx
        clear hx
        by_cases hlt : k < n
        · obtain ⟨ad, x, rfl, hbk, hx, hc⟩ := h0.icell hlt
          have HXX := hide hx
          cases hd : isDraw x
          · have HE := hide (show botErr K n xs = 1 from botErr_at G1.out (by have := G2.out; omega) hlt HX.out (bot_draw hx hd) (by decide))
            have HD := hide hd
            clear hx hd
            go_wp2_with fail
            refine (hnum_is HD.out _).mono ?_
            rintro e w1 ⟨rfl, rfl⟩
            go_wp2_with fail
            rw [HE.out]
            go_ret
            exact ⟨rfl, hb0⟩
          · have HD := hide hd
            by_cases k0 : k = 0
            · have hx0 := of_decide_eq_true (show decide (0 ≤ x ∧ x ≤ 72057594037927935) = true from hd)
              have HN := hide (faultTo_next HX.out (bot_ok hx hd (by unfold lastOf; rw [if_pos k0]; omega)))
              have hz : ¬ 0 < (k : Int) := by omega
              have hz3 : ¬ 0 < k := by omega
              clear hx hd k0
              go_wp2_with fail
              refine (hnum_is HD.out _).mono ?_
              rintro e w1 ⟨rfl, rfl⟩
              go_wp2_with fail
              go_round
              case rel => exact ⟨k + 1, by omega, by go_num, HN.out⟩
              case measure => simp [intOf]; omega
            · obtain ⟨m, hkm⟩ : ∃ m : Nat, k = m + 1 := ⟨k - 1, by omega⟩
              have hk1 : (k : Int) - 1 = (m : Int) := by omega
              have hkp : 0 < (k : Int) := by omega
              have hkp2 : 0 < k := by omega
              obtain ⟨ad2, y, had, _, hy, hc2⟩ := h0.icell (show m < n by omega)
              injection had with had
              subst had
              have hl := lastOf_next hy
              rw [← hkm] at hl
              have HKM := hide hkm
              clear hy k0 hkm
              by_cases hle : x ≤ y
              · have HE := hide (show botErr K n xs = 3 from botErr_at G1.out (by have := G2.out; omega) hlt HX.out (bot_low hx hd (by rw [hl]; exact hle)) (by decide))
                clear hx hd hl
                go_wp2_with fail
                refine (hnum_is HD.out _).mono ?_
                rintro e w1 ⟨rfl, rfl⟩
                go_wp2_with fail
                rw [HE.out]
                go_ret
                exact ⟨rfl, hb0⟩
              · have HN := hide (faultTo_next HX.out (bot_ok hx hd (by rw [hl]; exact hle)))
                clear hx hd hl
                go_wp2_with fail
                refine (hnum_is HD.out _).mono ?_
                rintro e w1 ⟨rfl, rfl⟩
                go_wp2_with fail
                go_round
                case rel => exact ⟨k + 1, by omega, by go_num, HN.out⟩
                case measure => simp [intOf]; omega
        · obtain rfl : k = n := by omega
          go_wp2_with fail
          rw [botErr_0 G1.out (by have := G2.out; omega) HX.out]
          go_ret
          exact ⟨rfl, hb0⟩
end
end Go.Proofs.YtjpbjghdplbdcaaGreatDoor
end
section
namespace Go.Proofs.YtjpbjghdplbdcaaGreatDoor
open Go
theorem bitLen_up {x k : Nat} (h : 2 ^ k ≤ x) (hx : x < 2 ^ 64) : k + 1 ≤ Lib.bitLen x := by
  rw [Lib.bitLen_shift k x h hx]
  have h1 : 0 < x / 2 ^ k := Nat.div_pos h (Nat.two_pow_pos k)
  have h2 : x / 2 ^ k < 2 ^ 64 := Nat.lt_of_le_of_lt (Nat.div_le_self _ _) hx
  rw [Lib.bitLen_half _ (by omega) h2]
  omega
theorem norm64 {y s : Nat} (h0 : 0 < y) (hy : y < 18446744073709551616) (hs : Lib.bitLen y + s = 64) : s ≤ 63 ∧ 9223372036854775808 ≤ y * 2 ^ s ∧ y * 2 ^ s < 18446744073709551616 := by
  have hy' : y < 2 ^ 64 := hy
  obtain ⟨n, hn⟩ : ∃ n, Lib.bitLen y = n := ⟨_, rfl⟩
  rw [hn] at hs
  have n1 : 1 ≤ n := by have := bitLen_up (k := 0) (x := y) (by rw [Nat.pow_zero]; exact h0) hy'; omega
  have up : y < 2 ^ n := by
    rcases Nat.lt_or_ge y (2 ^ n) with h | h
    · exact h
    · have := bitLen_up h hy'; omega
  have dn : 2 ^ (n - 1) ≤ y := by
    rcases Nat.lt_or_ge y (2 ^ (n - 1)) with h | h
    · have := Lib.bitLen_le y (n - 1) (by omega) h; omega
    · exact h
  have e1 : 2 ^ n * 2 ^ s = 18446744073709551616 := by rw [← Nat.pow_add, hs]
  have e2 : 2 ^ (n - 1) * 2 ^ s = 9223372036854775808 := by rw [← Nat.pow_add, show n - 1 + s = 63 by omega]
  refine ⟨by omega, ?_, ?_⟩
  · rw [← e2]; exact Nat.mul_le_mul_right _ dn
  · rw [← e1]; exact Nat.mul_lt_mul_of_pos_right up (Nat.two_pow_pos s)

structure Shifted (hi lo y s U V Y L : Nat) : Prop where
  t : s ≤ 63
  hY : Y = y * 2 ^ s
  y1 : 9223372036854775808 ≤ Y
  y2 : Y < 18446744073709551616
  hL : L = lo / 2 ^ (64 - s)
  hU : U = hi * 2 ^ s + L
  hor : hi * 2 ^ s ||| L = U
  hV : V = lo * 2 ^ s % 18446744073709551616
  all : U * 18446744073709551616 + V = (hi * 18446744073709551616 + lo) * 2 ^ s
  uy : U < Y
  l2 : L < 2 ^ s
theorem shifted {hi lo y s : Nat} (h1 : hi < y) (hy : y < 18446744073709551616) (hlo : lo < 18446744073709551616) (hs : Lib.bitLen y + s = 64) :
    ∃ U V Y L, Shifted hi lo y s U V Y L := by
  obtain ⟨t, y1, y2⟩ := norm64 (by omega) hy hs
  have ep : 2 ^ (64 - s) * 2 ^ s = 18446744073709551616 := by rw [← Nat.pow_add, show 64 - s + s = 64 by omega]
  have hp := Nat.two_pow_pos (64 - s)
  have hl2 : lo / 2 ^ (64 - s) < 2 ^ s := Nat.div_lt_of_lt_mul (by rw [ep]; exact hlo)
  have hdm := Nat.div_add_mod lo (2 ^ (64 - s))
  have hml : lo % 2 ^ (64 - s) * 2 ^ s < 18446744073709551616 := by rw [← ep]; exact Nat.mul_lt_mul_of_pos_right (Nat.mod_lt _ hp) (Nat.two_pow_pos s)
  have hlo2 : lo * 2 ^ s = lo / 2 ^ (64 - s) * 18446744073709551616 + lo % 2 ^ (64 - s) * 2 ^ s := by
    rw [← ep, ← Nat.mul_assoc, ← Nat.add_mul, Nat.mul_comm (lo / 2 ^ (64 - s)), hdm]
  have hall : (hi * 2 ^ s + lo / 2 ^ (64 - s)) * 18446744073709551616 + lo * 2 ^ s % 18446744073709551616 = (hi * 18446744073709551616 + lo) * 2 ^ s := by
    have e : (hi * 18446744073709551616 + lo) * 2 ^ s = hi * 2 ^ s * 18446744073709551616 + lo * 2 ^ s := by rw [Nat.add_mul, Nat.mul_right_comm]
    rw [e, hlo2]
    omega
  refine ⟨_, _, _, _, ⟨t, rfl, y1, y2, rfl, rfl, ?_, rfl, hall, ?_, hl2⟩⟩
  · rw [Nat.mul_comm hi, ← Nat.two_pow_add_eq_or_of_lt hl2]
  · have h2 : (hi * 18446744073709551616 + lo) * 2 ^ s < y * 18446744073709551616 * 2 ^ s := Nat.mul_lt_mul_of_pos_right (by omega) (Nat.two_pow_pos s)
    rw [← hall, Nat.mul_right_comm] at h2
    generalize hi * 2 ^ s + lo / 2 ^ (64 - s) = X at h2 ⊢
    generalize y * 2 ^ s = Z at h2 ⊢
    omega

structure Trial (Y a b U c q r : Nat) : Prop where
  s : q * a + r = U
  ge : (U * 4294967296 + c) / Y ≤ q
  le : q ≤ 4294967297
  lt : r < 4294967296
structure Two (Y a b U c : Nat) : Prop where
  hY : Y = a * 4294967296 + b
  a1 : 2147483648 ≤ a
  a2 : a < 4294967296
  b2 : b < 4294967296
  uy : U < Y
  c2 : c < 4294967296
section
variable {Y a b U c q r : Nat}
theorem Two.cmp (t : Two Y a b U c) (h : q * a + r = U) : q * Y ≤ U * 4294967296 + c ↔ q * b ≤ 4294967296 * r + c := by
  have e : q * Y = q * a * 4294967296 + q * b := by rw [t.hY, Nat.mul_add, Nat.mul_assoc]
  rw [e, ← h]
  generalize q * a = X
  generalize q * b = Z
  omega
theorem Two.low (t : Two Y a b U c) : (U * 4294967296 + c) / Y < 4294967296 := by
  apply Nat.div_lt_of_lt_mul
  have h1 := t.uy
  have h2 := t.c2
  omega
theorem Two.first (t : Two Y a b U c) : Trial Y a b U c (U / a) (U % a) := by
  have ha : 0 < a := by have := t.a1; omega
  have hd := Nat.div_add_mod U a
  have hm := Nat.mod_lt U ha
  refine ⟨by rw [Nat.mul_comm]; exact hd, ?_, ?_, by have := t.a2; omega⟩
  · rw [Nat.le_div_iff_mul_le ha]
    have h1 := Nat.div_mul_le_self (U * 4294967296 + c) Y
    rw [show (U * 4294967296 + c) / Y * Y = (U * 4294967296 + c) / Y * a * 4294967296 + (U * 4294967296 + c) / Y * b by rw [Nat.mul_assoc _ a, ← Nat.mul_add, ← t.hY]] at h1
    generalize (U * 4294967296 + c) / Y * a = X at h1 ⊢
    generalize (U * 4294967296 + c) / Y * b = Z at h1
    have h2 := t.c2
    omega
  · have h1 := t.uy
    have h2 := t.hY
    have h3 := t.b2
    have h4 := t.a1
    have : U / a < 4294967298 := by rw [Nat.div_lt_iff_lt_mul ha]; omega
    omega
theorem Trial.less (h : Trial Y a b U c q r) (t : Two Y a b U c) (hg : 4294967296 ≤ q ∨ 4294967296 * r + c < q * b) : 1 ≤ q ∧ (U * 4294967296 + c) / Y ≤ q - 1 ∧ (q - 1) * a + (r + a) = U := by
  have hq : (U * 4294967296 + c) / Y < q := by
    rcases hg with hg | hg
    · have := t.low; omega
    · have hn : ¬ q * Y ≤ U * 4294967296 + c := fun hle => by have := (t.cmp h.s).1 hle; omega
      rw [Nat.div_lt_iff_lt_mul (by have := t.uy; omega)]
      exact Nat.lt_of_not_le hn
  have hq0 : 0 < q := Nat.lt_of_le_of_lt (Nat.zero_le _) hq
  refine ⟨hq0, Nat.le_sub_one_of_lt hq, ?_⟩
  have hs := h.s
  clear hq
  obtain ⟨p, rfl⟩ : ∃ p, q = p + 1 := ⟨q - 1, by omega⟩
  rw [Nat.add_sub_cancel]
  rw [Nat.succ_mul] at hs
  omega
theorem Trial.on (h : Trial Y a b U c q r) (t : Two Y a b U c) (hg : 4294967296 ≤ q ∨ 4294967296 * r + c < q * b) (hr : r + a < 4294967296) : Trial Y a b U c (q - 1) (r + a) := by
  obtain ⟨h1, h2, h3⟩ := h.less t hg
  exact ⟨h3, h2, by have := h.le; omega, hr⟩
theorem Trial.done (h : Trial Y a b U c q r) (t : Two Y a b U c) (hg : ¬ 4294967296 * r + c < q * b) : q = (U * 4294967296 + c) / Y := by
  have h1 := (t.cmp h.s).2 (by omega)
  have h2 := (Nat.le_div_iff_mul_le (by have := t.uy; omega : 0 < Y)).2 h1
  have := h.ge
  omega
theorem Trial.stop (h : Trial Y a b U c q r) (t : Two Y a b U c) (hg : 4294967296 ≤ q ∨ 4294967296 * r + c < q * b) (hr : 4294967296 ≤ r + a) : q - 1 = (U * 4294967296 + c) / Y := by
  obtain ⟨h1, h2, h3⟩ := h.less t hg
  have hb : (q - 1) * b ≤ 4294967296 * 4294967296 := Nat.mul_le_mul (by have := h.le; omega) (by have := t.b2; omega)
  have h4 := (t.cmp h3).2 (by omega)
  have h5 := (Nat.le_div_iff_mul_le (by have := t.uy; omega : 0 < Y)).2 h4
  omega
end
theorem two_halves {U V Y c1 c0 N y s : Nat} (hV : V = c1 * 4294967296 + c0) (hall : U * 18446744073709551616 + V = N * 2 ^ s) (hY : Y = y * 2 ^ s) (h0 : 0 < y) {Q1 R1 Q0 R0 : Nat}
    (e1 : (U * 4294967296 + c1) / Y = Q1) (e2 : (U * 4294967296 + c1) % Y = R1) (e3 : (R1 * 4294967296 + c0) / Y = Q0) (e4 : (R1 * 4294967296 + c0) % Y = R0) : Q1 * 4294967296 + Q0 = N / y ∧ R0 = N % y * 2 ^ s := by
  have hp := Nat.two_pow_pos s
  have hY0 : 0 < Y := by rw [hY]; exact Nat.mul_pos h0 hp
  have d1 := Nat.div_add_mod (U * 4294967296 + c1) Y
  have d2 := Nat.div_add_mod (R1 * 4294967296 + c0) Y
  have l2 := Nat.mod_lt (R1 * 4294967296 + c0) hY0
  rw [e1, e2] at d1
  rw [e3, e4] at d2
  rw [e4] at l2
  have key : N * 2 ^ s = Y * (Q1 * 4294967296 + Q0) + R0 := by
    rw [← hall, hV, Nat.mul_add, ← Nat.mul_assoc]
    generalize Y * Q1 = A at d1 ⊢
    generalize Y * Q0 = B at d2 ⊢
    omega
  have k1 : N * 2 ^ s / Y = Q1 * 4294967296 + Q0 := by rw [key, Nat.mul_add_div hY0, Nat.div_eq_of_lt l2, Nat.add_zero]
  have k2 : N * 2 ^ s % Y = R0 := by rw [key, Nat.mul_add_mod, Nat.mod_eq_of_lt l2]
  rw [hY] at k1 k2
  rw [Nat.mul_div_mul_right _ _ hp] at k1
  rw [Nat.mul_mod_mul_right] at k2
  exact ⟨k1.symm, k2.symm⟩
end Go.Proofs.YtjpbjghdplbdcaaGreatDoor
end
