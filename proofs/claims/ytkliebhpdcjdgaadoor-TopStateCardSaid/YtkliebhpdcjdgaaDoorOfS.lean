/-
  mix.Mix, mix.Of: the walks. Conditions: none.
-/
import Derived.Test.YtkliebhpdcjdgaaDoorApp
import Derived.Test.YtkliebhpdcjdgaaDoorProg
import Derived.WalkKit
import Derived.Laws.Bits64
import Derived.Laws.BitsAllLaws
import Derived.Laws.IdiomStrings
import Derived.Laws.Bits64b
namespace Go.Proofs.YtkliebhpdcjdgaaDoor
open Go.RowKit

def mixA (x : Nat) : Nat := (x ^^^ x / 1073741824) * 13787848793156543929 % 18446744073709551616
def mixB (x : Nat) : Nat := (x ^^^ x / 134217728) * 10723151780598845931 % 18446744073709551616
def mixC (x : Nat) : Nat := x ^^^ x / 2147483648
/-- The mixed number. -/
def mixN (x : Nat) : Nat := mixC (mixB (mixA x))
theorem mixA_lt (x : Nat) : mixA x < 18446744073709551616 := Nat.mod_lt _ (by decide)
theorem mixB_lt (x : Nat) : mixB x < 18446744073709551616 := Nat.mod_lt _ (by decide)
theorem mixC_lt {x : Nat} (h : x < 18446744073709551616) : mixC x < 18446744073709551616 := by
  have : mixC x < 2 ^ 64 := Nat.xor_lt_two_pow (by omega) (Nat.lt_of_le_of_lt (Nat.div_le_self _ _) (by omega))
  omega
theorem mixN_lt (x : Nat) : mixN x < 18446744073709551616 := mixC_lt (mixB_lt _)

theorem stepA {x : Nat} (h : x < 18446744073709551616) : IntKind.u64.wrap (bits .xor .u64 (x : Int) ((x : Int) / 1073741824) * 13787848793156543929) = ((mixA x : Nat) : Int) := mixStep_u64 x 1073741824 13787848793156543929 h
theorem stepB {x : Nat} (h : x < 18446744073709551616) : IntKind.u64.wrap (bits .xor .u64 (x : Int) ((x : Int) / 134217728) * 10723151780598845931) = ((mixB x : Nat) : Int) := mixStep_u64 x 134217728 10723151780598845931 h
theorem stepC {x : Nat} (h : x < 18446744073709551616) : bits .xor .u64 (x : Int) ((x : Int) / 2147483648) = ((mixC x : Nat) : Int) := xorShift_u64 x 2147483648 h
theorem tdiv_u64 {x : Nat} (h : x < 18446744073709551616) (k : Nat) : IntKind.u64.wrap ((x : Int).tdiv (k : Int)) = (x : Int) / (k : Int) := by
  rw [IntKind.wrap_u64, Int.tdiv_eq_ediv_of_nonneg (by omega)]
  have h1 : x / k < 18446744073709551616 := Nat.lt_of_le_of_lt (Nat.div_le_self _ _) h
  rw [show (x : Int) / (k : Int) = ((x / k : Nat) : Int) from (Int.natCast_ediv x k).symm]
  generalize x / k = y at h1
  omega
theorem tdivB {x : Nat} (h : x < 18446744073709551616) : IntKind.u64.wrap ((x : Int).tdiv 134217728) = (x : Int) / 134217728 := tdiv_u64 h 134217728
theorem tdivC {x : Nat} (h : x < 18446744073709551616) : IntKind.u64.wrap ((x : Int).tdiv 2147483648) = (x : Int) / 2147483648 := tdiv_u64 h 2147483648
theorem tdivD {x : Nat} (h : x < 18446744073709551616) : IntKind.u64.wrap ((x : Int).tdiv 256) = (x : Int) / 256 := tdiv_u64 h 256

theorem mix_any (x : Nat) (hx : x < 18446744073709551616) (w : World) : Calls Tryd.prog 38 #[.int .u64 x] w fun e w' => e = .returned (.int .u64 (mixN x)) ∧ w = w' := by
  go_enter Tryd.func38, Tryd.ntmps38
  go_wp2
  go_ret
  refine ⟨?_, rfl⟩
  simp only [stepA hx, tdivB (mixA_lt _), stepB (mixA_lt _), tdivC (mixB_lt _), stepC (mixB_lt _)]
  rfl
/-- The hash of the first k bytes. -/
def hashN (s : ByteArray) : Nat → Nat
  | 0 => 14695981039346656037
  | k + 1 => (hashN s k ^^^ (s.get! k).toNat) * 1099511628211 % 18446744073709551616
theorem hashN_lt (s : ByteArray) : ∀ k, hashN s k < 18446744073709551616
  | 0 => by simp [hashN]
  | k + 1 => Nat.mod_lt _ (by decide)

theorem get_at {s : ByteArray} {k : Nat} (h : k < s.size) : s.get! k = s[k] := by
  have h' : k < s.data.size := h
  show s.data[k]! = s.data[k]
  exact getElem!_pos s.data k h'
theorem byte_wrap (b : UInt8) : IntKind.u64.wrap (b.toNat : Int) = (b.toNat : Int) := by
  have := b.toNat_lt
  rw [IntKind.wrap_u64]; omega
theorem hash_step {x : Nat} (hx : x < 18446744073709551616) (b : UInt8) : IntKind.u64.wrap (bits .xor .u64 (x : Int) (IntKind.u64.wrap (b.toNat : Int)) * 1099511628211) = (((x ^^^ b.toNat) * 1099511628211 % 18446744073709551616 : Nat) : Int) := by
  have := b.toNat_lt
  rw [byte_wrap, bits_xor_u64_nat _ _ hx (by omega), IntKind.wrap_u64]
  generalize x ^^^ b.toNat = y
  omega
theorem last_is {x : Nat} (hx : x < 18446744073709551616) : wrap64 ((x : Int) / 256) = ((x / 256 : Nat) : Int) := by
  unfold wrap64; omega

def ofErr (s : ByteArray) : Int := if 200 < s.size then 2 else 0
def ofVal (s : ByteArray) : Int := if 200 < s.size then 0 else (mixN (hashN s s.size) / 256 : Nat)

theorem of_any (s : ByteArray) (hs : s.size ≤ 140737488351232) (w : World) : Calls Tryd.prog 9 #[.string s] w fun e w' => e = .returned (.tuple #[.int .i64 (ofVal s), .int .i64 (ofErr s)]) ∧ w = w' := by
  by_cases hl : 200 < s.size
  · rw [show ofVal s = 0 from if_pos hl, show ofErr s = 2 from if_pos hl]
    go_enter Tryd.func9, Tryd.ntmps9
    go_wp2_with fail
    go_ret2
    exact ⟨rfl, rfl⟩
  · rw [show ofVal s = (mixN (hashN s s.size) / 256 : Nat) from if_neg hl, show ofErr s = 0 from if_neg hl]
    go_enter Tryd.func9, Tryd.ntmps9
    go_wp2_with fail
    go_loop [4, 11] (fun v i => ∃ k : Nat, k ≤ s.size ∧ i = .int .i64 k ∧ v = .int .u64 (hashN s k)) (fun _ i => s.size - (intOf i).toNat)
    case atStart => exact ⟨0, Nat.zero_le _, rfl, rfl⟩
    case round =>
      obtain ⟨k, hk, rfl, rfl⟩ := hrel
      have hb := hashN_lt s k
      by_cases hlt : k < s.size
      · go_wp2_with fail
        refine ⟨⟨k + 1, by omega, by go_num, ?_⟩, by simp [intOf]; omega⟩
        rw [hash_step hb, hashN, get_at hlt]
      · obtain rfl : k = s.size := by omega
        go_wp2_with fail
        refine (mix_any _ hb _).mono ?_
        rintro e w1 ⟨rfl, rfl⟩
        go_wp2_with fail
        rw [last_is (mixN_lt _)]
        go_ret2
        exact ⟨rfl, rfl⟩
end Go.Proofs.YtkliebhpdcjdgaaDoor
