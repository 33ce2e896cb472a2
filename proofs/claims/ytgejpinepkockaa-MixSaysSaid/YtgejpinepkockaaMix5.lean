/-
  mix.Of; culref.Hash: the walks. Conditions: none.
-/
import Derived.Test.YtgejpinepkockaaMix4
import Derived.Laws.IdiomStrings
import Derived.Laws.Bits64b
namespace Go.Proofs.Ytgejpinepkockaa
open Go.RowKit

/-- The hash of the first k bytes. -/
def hashN (s : ByteArray) : Nat → Nat
  | 0 => 14695981039346656037
  | k + 1 => (hashN s k ^^^ (s.get! k).toNat) * 1099511628211 % 18446744073709551616
theorem hashN_lt (s : ByteArray) : ∀ k, hashN s k < 18446744073709551616
  | 0 => by simp [hashN]
  | k + 1 => Nat.mod_lt _ (by decide)

theorem get_at {s : ByteArray} {k : Nat} (h : k < s.size) : s.get! k = s[k] := by
  have h' : k < s.data.size := h
  show s.data[k]! = s.data[k]
  exact getElem!_pos s.data k h'
theorem byte_wrap (b : UInt8) : IntKind.u64.wrap (b.toNat : Int) = (b.toNat : Int) := by
  have := b.toNat_lt
  rw [IntKind.wrap_u64]; omega
theorem hash_step {x : Nat} (hx : x < 18446744073709551616) (b : UInt8) : IntKind.u64.wrap (bits .xor .u64 (x : Int) (IntKind.u64.wrap (b.toNat : Int)) * 1099511628211) = (((x ^^^ b.toNat) * 1099511628211 % 18446744073709551616 : Nat) : Int) := by
  have := b.toNat_lt
  rw [byte_wrap, bits_xor_u64_nat _ _ hx (by omega), IntKind.wrap_u64]
  generalize x ^^^ b.toNat = y
  omega
theorem rhash_step {x : Nat} (hx : x < 18446744073709551616) (b : UInt8) : IntKind.u64.wrap (IntKind.u64.wrap (bits .xor .u64 (x : Int) (IntKind.u64.wrap (b.toNat : Int)) * 1099511627776) + IntKind.u64.wrap (bits .xor .u64 (x : Int) (IntKind.u64.wrap (b.toNat : Int)) * 435)) = (((x ^^^ b.toNat) * 1099511628211 % 18446744073709551616 : Nat) : Int) := by
  have := b.toNat_lt
  rw [byte_wrap, bits_xor_u64_nat _ _ hx (by omega), IntKind.wrap_u64, IntKind.wrap_u64, IntKind.wrap_u64]
  generalize x ^^^ b.toNat = y
  omega
theorem last_is {x : Nat} (hx : x < 18446744073709551616) : wrap64 ((x : Int) / 256) = ((x / 256 : Nat) : Int) := by
  unfold wrap64; omega

theorem last2_is {x : Nat} (hx : x < 18446744073709551616) : wrap64 (IntKind.u64.wrap ((x : Int) / 256)) = ((x / 256 : Nat) : Int) := by
  rw [IntKind.wrap_u64]; unfold wrap64; omega

def ofErr (s : ByteArray) : Int := if 200 < s.size then 2 else 0
def ofVal (s : ByteArray) : Int := if 200 < s.size then 0 else (mixN (hashN s s.size) / 256 : Nat)

theorem of_any (s : ByteArray) (hs : s.size ≤ 140737488351232) (w : World) : Calls Try.prog 50 #[.string s] w fun e w' => e = .returned (.tuple #[.int .i64 (ofVal s), .int .i64 (ofErr s)]) ∧ w = w' := by
  by_cases hl : 200 < s.size
  · rw [show ofVal s = 0 from if_pos hl, show ofErr s = 2 from if_pos hl]
    go_enter Try.func50, Try.ntmps50
    go_wp2_with fail
    go_ret2
    exact ⟨rfl, rfl⟩
  · rw [show ofVal s = (mixN (hashN s s.size) / 256 : Nat) from if_neg hl, show ofErr s = 0 from if_neg hl]
    go_enter Try.func50, Try.ntmps50
    go_wp2_with fail
    go_loop [4, 11] (fun v i => ∃ k : Nat, k ≤ s.size ∧ i = .int .i64 k ∧ v = .int .u64 (hashN s k)) (fun _ i => s.size - (intOf i).toNat)
    case atStart => exact ⟨0, Nat.zero_le _, rfl, rfl⟩
    case round =>
      obtain ⟨k, hk, rfl, rfl⟩ := hrel
      have hb := hashN_lt s k
      by_cases hlt : k < s.size
      · go_wp2_with fail
        refine ⟨⟨k + 1, by omega, by go_num, ?_⟩, by simp [intOf]; omega⟩
        rw [hash_step hb, hashN, get_at hlt]
      · obtain rfl : k = s.size := by omega
        go_wp2_with fail
        refine (mix_any _ hb _).mono ?_
        rintro e w1 ⟨rfl, rfl⟩
        go_wp2_with fail
        rw [last_is (mixN_lt _)]
        go_ret2
        exact ⟨rfl, rfl⟩
set_option maxRecDepth 20000 in
theorem hash_any (s : ByteArray) (hs : s.size ≤ 140737488351232) (w : World) : Calls Try.prog 55 #[.string s] w fun e w' => e = .returned (.int .i64 (mixN (hashN s s.size) / 256 : Nat)) ∧ Below w.heap.size w w' := by
  go_enter Try.func55, Try.ntmps55
  go_wp2_with fail
  rw [run_bytes_of_string _ _ _ 5 s (by kernel_rfl) (by kernel_rfl) (by kernel_rfl)]
  have hcell : ∀ k (hk : k < s.size), (w.drew.alloc (.cells (bytesRow s (grownCap w s.size 0 5)) 5 ((bytesRow s (grownCap w s.size 0 5)).size, (bytesRow s (grownCap w s.size 0 5)).size + 1))).cell? ⟨w.heap.size, k, none⟩ = some (.int .u8 (s[k].toNat : Int)) := by
    intro k hk
    rw [show w.heap.size = w.drew.heap.size from rfl, World.cell?_alloc_mark]
    have hk' : k < s.data.size := hk
    unfold bytesRow
    rw [Array.getElem?_append_left (by simpa using hk')]
    simp [hk']
    exact ⟨s.data[k], by simp [hk'], rfl⟩
  have hbel : Below w.heap.size w (w.drew.alloc (.cells (bytesRow s (grownCap w s.size 0 5)) 5 ((bytesRow s (grownCap w s.size 0 5)).size, (bytesRow s (grownCap w s.size 0 5)).size + 1))) := by repeat' (first | assumption | with_reducible exact Below.refl _ _ | with_reducible apply Below.drew | with_reducible apply below_drewN | with_reducible apply below_alloc | with_reducible refine below_set ?_ ?_ _ | (simp only [World.size_alloc, World.heap_drewN]; omega) | (simp; omega))
  generalize w.drew.alloc (.cells (bytesRow s (grownCap w s.size 0 5)) 5 ((bytesRow s (grownCap w s.size 0 5)).size, (bytesRow s (grownCap w s.size 0 5)).size + 1)) = w1 at hcell hbel ⊢
  generalize grownCap w s.size 0 5 = cap
  go_wp2_with fail
  go_loop [3, 9] (fun v i => ∃ k : Nat, k ≤ s.size ∧ i = .int .i64 k ∧ v = .int .u64 (hashN s k)) (fun _ i => s.size - (intOf i).toNat)
  case atStart => exact ⟨0, Nat.zero_le _, rfl, rfl⟩
  case round =>
    obtain ⟨k, hk, rfl, rfl⟩ := hrel
    have hb := hashN_lt s k
    by_cases hlt : k < s.size
    · have hc := hcell k hlt
      go_wp2_with fail
      refine ⟨⟨k + 1, by omega, by go_num, ?_⟩, by simp [intOf]; omega⟩
      rw [rhash_step hb, hashN, get_at hlt]
    · obtain rfl : k = s.size := by omega
      go_wp2_with fail
      refine (rmix_any _ hb _).mono ?_
      rintro e w2 ⟨rfl, rfl⟩
      go_wp2_with fail
      rw [last2_is (mixN_lt _)]
      go_ret
      exact ⟨rfl, hbel⟩
end Go.Proofs.Ytgejpinepkockaa
