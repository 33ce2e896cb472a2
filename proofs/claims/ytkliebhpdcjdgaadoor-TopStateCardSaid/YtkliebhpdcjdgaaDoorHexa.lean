/-
  hexa.digits, Th, Rv, parse, ParseTh, ParseRv: the walks. Conditions: a text's length.
-/
import Derived.Test.YtkliebhpdcjdgaaDoorHexaP
import Derived.Test.YtkliebhpdcjdgaaDoorWithin
import Derived.Test.YtkliebhpdcjdgaaDoorProg
import Derived.Laws.BitsAllLaws
import Derived.Laws.IdiomStrings
import Derived.Deep.QuietTactic
import Derived.BigQuiet
import Derived.Deep.DeepCutAuto
import Derived.WalkKit
namespace Go.Proofs.YtkliebhpdcjdgaaDoor
open Go.RowKit

/-- A text by its bytes. -/
def tx (l : List UInt8) : ByteArray := ⟨l.toArray⟩
theorem tx_size (l : List UInt8) : (tx l).size = l.length := by simp [tx, ByteArray.size]
theorem tx_get {l : List UInt8} {k : Nat} (h : k < (tx l).size) : (tx l)[k] = l.getD k 48 := by
  have h' : k < l.length := by rwa [tx_size] at h
  show (l.toArray)[k]'(by simpa using h') = _
  simp [List.getD, h']
theorem tx_of (s : ByteArray) : s = tx s.data.toList := rfl
theorem tx_app (a b : List UInt8) : tx a ++ tx b = tx (a ++ b) := by
  apply ByteArray.ext
  simp [tx, ByteArray.data_append]
theorem tx_take (l : List UInt8) (k : Nat) : (tx l).extract 0 k = tx (l.take k) := by
  apply ByteArray.ext
  simp [tx, ByteArray.data_extract]
def hexs : ByteArray := ⟨#[48, 49, 50, 51, 52, 53, 54, 55, 56, 57, 97, 98, 99, 100, 101, 102]⟩
theorem hex_piece {d : Nat} (h : d < 16) : hexs.extract d (d + 1) = tx [hexc d] := by
  have : ∀ d < 16, (hexs.extract d (d + 1)).data = (tx [hexc d]).data := by decide +kernel
  exact ByteArray.ext (this d h)
theorem i64_and15 (n : Int) : bits .and .i64 n 15 = n % 16 := by
  have h127 : (BitVec.ofInt 64 15).toNat = 2 ^ 4 - 1 := by decide
  have key : (BitVec.ofInt 64 n &&& BitVec.ofInt 64 15).toNat = (n % ((2 ^ 64 : Nat) : Int)).toNat % 2 ^ 4 := by
    rw [BitVec.toNat_and, BitVec.toNat_ofInt, h127, Nat.and_two_pow_sub_one_eq_mod]
  show IntKind.i64.wrap ((BitVec.ofInt 64 n &&& BitVec.ofInt 64 15).toNat : Nat) = n % 16
  rw [key, IntKind.wrap_i64]
  omega

def isDraw (x : Int) : Bool := inR x 0 72057594037927935
theorem hnum_any (x : Int) (w : World) : Calls Tryd.prog 39 #[.int .i64 x] w fun e w' => e = .returned (.bool (isDraw x)) ∧ w = w' := by
  by_cases h1 : 0 ≤ x
  · by_cases h2 : x ≤ 72057594037927935
    · have E := hide (show isDraw x = true from inR_yes ⟨h1, h2⟩)
      go_enter Tryd.func39, Tryd.ntmps39
      go_wp2_with fail
      go_ret
      exact ⟨by rw [E.out]; first | rfl | (simp; omega), rfl⟩
    · have E := hide (show isDraw x = false from inR_no (x := x) (a := 0) (b := 72057594037927935) (by omega))
      go_enter Tryd.func39, Tryd.ntmps39
      go_wp2_with fail
      go_ret
      exact ⟨by rw [E.out]; first | rfl | (simp; omega), rfl⟩
  · have E := hide (show isDraw x = false from inR_no (x := x) (a := 0) (b := 72057594037927935) (by omega))
    go_enter Tryd.func39, Tryd.ntmps39
    go_wp2_with fail
    go_ret
    exact ⟨by rw [E.out]; first | rfl | (simp; omega), rfl⟩
theorem hnum_is {x : Int} {d : Bool} (h : isDraw x = d) (w : World) : Calls Tryd.prog 39 #[.int .i64 x] w fun e w' => e = .returned (.bool d) ∧ w = w' := by
  have k := hnum_any x w; rw [h] at k; exact k
theorem draw_any (x : Int) (w : World) : Calls Tryd.prog 22 #[.int .i64 x] w fun e w' => e = .returned (.bool (isDraw x)) ∧ w = w' := by
  go_enter Tryd.func22, Tryd.ntmps22
  go_wp2_with fail
  refine (within_any _ _ _ _).mono ?_
  rintro e w' ⟨rfl, rfl⟩
  go_wp2_with fail
  go_ret
  exact ⟨rfl, rfl⟩
theorem draw_is {x : Int} {d : Bool} (h : isDraw x = d) (w : World) : Calls Tryd.prog 22 #[.int .i64 x] w fun e w' => e = .returned (.bool d) ∧ w = w' := by
  have k := draw_any x w; rw [h] at k; exact k

/-- The digit that stands at the place j of fourteen. -/
def dig (n j : Nat) : Nat := n / 16 ^ (13 - j) % 16
theorem dig_lt (n j : Nat) : dig n j < 16 := Nat.mod_lt _ (by decide)
theorem dig_is {n j : Nat} (h : j < 14) : ((n : Int) / 2 ^ (52 - 4 * j)) % 16 = (dig n j : Int) := by
  have e : (2 : Nat) ^ (52 - 4 * j) = 16 ^ (13 - j) := by
    rw [show (16 : Nat) = 2 ^ 4 from rfl, ← Nat.pow_mul, show 4 * (13 - j) = 52 - 4 * j by omega]
  unfold dig
  rw [← e, Int.natCast_emod, Int.natCast_ediv, Int.natCast_pow]
  rfl
def upTo (n j : Nat) : ByteArray := tx (digs j (n / 16 ^ (14 - j)))
theorem upTo_next {n j : Nat} (h : j < 14) : upTo n j ++ hexs.extract (dig n j) (dig n j + 1) = upTo n (j + 1) := by
  rw [hex_piece (dig_lt n j)]
  unfold upTo
  rw [tx_app, show 14 - (j + 1) = 13 - j by omega, digs_up h]
  rfl
theorem upTo_size (n j : Nat) : (upTo n j).size = j := by rw [upTo, tx_size, digs_len]
theorem hexs_size {d : Nat} (h : d < 16) : (hexs.extract d (d + 1)).size = 1 := by rw [hex_piece h]; rfl
theorem upTo_all (n : Nat) : upTo n 14 = tx (digs 14 n) := by simp [upTo]

theorem digits_any (n : Nat) (w : World) : Calls Tryd.prog 45 #[.int .i64 n] w fun e w' => e = .returned (.string (tx (digs 14 n))) ∧ ∃ q, w' = w.drewN q := by
  go_enter Tryd.func45, Tryd.ntmps45
  go_wp2_with fail
  go_loopw [3, 4] (fun v i wr => ∃ j : Nat, j ≤ 14 ∧ i = .int .i64 (52 - 4 * (j : Int)) ∧ v = .string (upTo n j) ∧ ∃ q, wr = w.drewN q) (fun _ i _ => (intOf i + 4).toNat)
  case atStart => exact ⟨0, by omega, rfl, rfl, 0, rfl⟩
  case round =>
    obtain ⟨j, hj, rfl, rfl, q, rfl⟩ := hrel
    by_cases hlt : j < 14
    · obtain ⟨m, hm⟩ : ∃ m : Nat, 52 - 4 * j = m := ⟨_, rfl⟩
      have e := i64_and15 ((n : Int) / 2 ^ (52 - 4 * j))
      rw [dig_is hlt] at e
      have hd := dig_lt n j
      have hn := upTo_next (n := n) hlt
      rw [hm] at e
      rw [show (52 - 4 * (j : Int)) = (m : Int) by omega]
      have ms : min m 64 = m := by omega
      have hu := upTo_size n j
      have hc := hexs_size hd
      have hx : ∃ C, hexs.extract (dig n j) (dig n j + 1) = C := ⟨_, rfl⟩
      obtain ⟨C, hx⟩ := hx
      rw [hx] at hn hc
      unfold hexs at hx
      generalize upTo n j = u at hn hu ⊢
      obtain ⟨u', hu'⟩ : ∃ u', upTo n (j + 1) = u' := ⟨_, rfl⟩
      rw [hu'] at hn
      have HN := hide hu'
      clear hu'
      generalize dig n j = d at e hd hx
      go_upto_region 5 with fail
      go_quiet (fail)
      go_wp2_with fail
      go_round
      case rel => exact ⟨j + 1, by omega, by first | rfl | (congr 1; omega), by first | rfl | (rw [HN.out]), _, rfl⟩
      case measure => simp [intOf]; omega
    · obtain rfl : j = 14 := by omega
      go_wp2_with fail
      go_ret
      rw [upTo_all]
      exact ⟨rfl, q, rfl⟩

def strLen : Value → Nat
  | .string s => s.size
  | _ => 0
set_option maxRecDepth 20000 in
theorem strip_any {l : List UInt8} (hl : l.length = 14) {n : Int} (hd : isDraw n = true)
    (H0 : ∀ w : World, Calls Tryd.prog 45 #[.int .i64 n] w fun e w' => e = .returned (.string (tx l)) ∧ ∃ q, w' = w.drewN q) (w : World) :
    Calls Tryd.prog 17 #[.int .i64 n] w fun e w' => e = .returned (.tuple #[.string (tx (thS l)), .int .i64 0]) ∧ ∃ q, w' = w.drewN q := by
  have HD := hide hd
  have H1 := hide H0
  have HL := hide hl
  clear hd H0 hl
  go_enter Tryd.func17, Tryd.ntmps17
  go_wp2_with fail
  refine (hnum_is HD.out _).mono ?_
  rintro e w' ⟨rfl, rfl⟩
  go_wp2_with fail
  refine (H1.out _).mono ?_
  rintro e w' ⟨rfl, q, rfl⟩
  go_wp2_with fail
  go_loop [4] (fun v => ∃ k : Nat, 0 < k ∧ k ≤ 14 ∧ v = .string (tx (l.take k)) ∧ ∀ j, k ≤ j → j < 14 → l[j]? = some 48) (fun v => strLen v)
  case atStart =>
    refine ⟨14, by omega, by omega, ?_, fun j h1 h2 => by omega⟩
    rw [List.take_of_length_le (by rw [HL.out]; exact Nat.le_refl _)]
  case round =>
    obtain ⟨k, h0, hk, rfl, hz⟩ := hrel
    obtain ⟨m, rfl⟩ : ∃ m, k = m + 1 := ⟨k - 1, by omega⟩
    have HZ := hide hz
    clear hz h0
    obtain ⟨c, hc⟩ : ∃ c, l[m]? = some c := ⟨_, List.getElem?_eq_getElem (by rw [HL.out]; omega)⟩
    obtain ⟨S, hS⟩ : ∃ S, tx (l.take (m + 1)) = S := ⟨_, rfl⟩
    have hs : S.size = m + 1 := by rw [← hS, tx_size, List.length_take, HL.out]; omega
    have hb : ∀ h : m < S.size, S[m]'h = c := by
      subst hS
      intro h
      rw [tx_get h]
      simp [List.getD, hc]
    have hx : S.extract 0 m = tx (l.take m) := by rw [← hS, tx_take, List.take_take, Nat.min_eq_left (by omega)]
    have HS := hide hS
    have HC := hide hc
    rw [hS]
    clear hS hc
    by_cases hm : 0 < m
    · by_cases e : c = 48
      · have ce : (c.toNat : Int) = 48 := by rw [e]; rfl
        have E := hide e
        clear e
        go_wp2_with fail
        refine ⟨⟨m, hm, by omega, rfl, fun j h1 h2 => ?_⟩, ?_⟩
        · by_cases hj : j = m
          · subst hj; rw [HC.out, E.out]
          · exact HZ.out j (by omega) h2
        · show (tx (l.take m)).size < S.size
          rw [tx_size, List.length_take]
          omega
      · have ce : ((c.toNat : Int) == 48) = false := by
          have : ¬ (c.toNat : Int) = 48 := fun h => e (u8_eq (by have : c.toNat = 48 := (by omega); rw [this]; rfl))
          simpa using this
        have E := hide e
        clear e
        go_wp2_with fail
        go_ret2
        refine ⟨?_, q, rfl⟩
        rw [← HS.out, th_is (k := m + 1) (by omega) (by rw [HL.out]; omega) (by rw [HL.out]; exact HZ.out) (.inr (by simpa [HC.out] using E.out))]
        rfl
    · obtain rfl : m = 0 := by omega
      go_wp2_with fail
      go_ret2
      refine ⟨?_, q, rfl⟩
      rw [← HS.out, th_is (k := 1) (by omega) (by rw [HL.out]; omega) (by rw [HL.out]; exact HZ.out) (.inl rfl)]
      rfl
theorem th_any (n : Nat) (hd : isDraw n = true) (w : World) :
    Calls Tryd.prog 17 #[.int .i64 n] w fun e w' => e = .returned (.tuple #[.string (tx (thS (digs 14 n))), .int .i64 0]) ∧ ∃ q, w' = w.drewN q := strip_any (digs_len _ _) hd (digits_any n) w
theorem th_no {n : Int} (hd : isDraw n = false) (w : World) : Calls Tryd.prog 17 #[.int .i64 n] w fun e w' => e = .returned (.tuple #[.string ⟨#[]⟩, .int .i64 1]) ∧ w = w' := by
  have HD := hide hd
  clear hd
  go_enter Tryd.func17, Tryd.ntmps17
  go_wp2_with fail
  refine (hnum_is HD.out _).mono ?_
  rintro e w' ⟨rfl, rfl⟩
  go_wp2_with fail
  go_ret2
  exact ⟨rfl, rfl⟩
theorem rv_no {n : Int} (hd : isDraw n = false) (w : World) : Calls Tryd.prog 19 #[.int .i64 n] w fun e w' => e = .returned (.tuple #[.string ⟨#[]⟩, .int .i64 1]) ∧ w = w' := by
  have HD := hide hd
  clear hd
  go_enter Tryd.func19, Tryd.ntmps19
  go_wp2_with fail
  refine (hnum_is HD.out _).mono ?_
  rintro e w' ⟨rfl, rfl⟩
  go_wp2_with fail
  go_ret2
  exact ⟨rfl, rfl⟩
theorem rv_any (n : Nat) (hd : isDraw n = true) (w : World) : Calls Tryd.prog 19 #[.int .i64 n] w fun e w' => e = .returned (.tuple #[.string (tx (digs 14 n)), .int .i64 0]) ∧ ∃ q, w' = w.drewN q := by
  have HD := hide hd
  clear hd
  go_enter Tryd.func19, Tryd.ntmps19
  go_wp2_with fail
  refine (hnum_is HD.out _).mono ?_
  rintro e w' ⟨rfl, rfl⟩
  go_wp2_with fail
  refine (digits_any n _).mono ?_
  rintro e w' ⟨rfl, q, rfl⟩
  go_wp2_with fail
  go_ret2
  exact ⟨rfl, q, rfl⟩
end Go.Proofs.YtkliebhpdcjdgaaDoor
