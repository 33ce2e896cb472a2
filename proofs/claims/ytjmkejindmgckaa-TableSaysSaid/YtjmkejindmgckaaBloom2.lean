/-
  bloom.places: the walk. Condition: the filter may be.
-/
import Derived.Test.YtjmkejindmgckaaBloom
import Derived.Test.YtjmkejindmgckaaMix
namespace Go.Proofs.Ytjmkejindmgckaa
open Go.RowKit

/-- The states, one after the other. -/
def sIt (k : Nat) : Nat → Nat
  | 0 => k
  | i + 1 => nextN (sIt k i)
theorem sIt_lt {k : Nat} (h : k < 18446744073709551616) : ∀ i, sIt k i < 18446744073709551616
  | 0 => h
  | _ + 1 => nextN_lt _
theorem sIt_is {k : Nat} (h : k < 18446744073709551616) : ∀ i, sIt k i = (k + i * 11400714819323198485) % 18446744073709551616
  | 0 => by rw [sIt, Nat.zero_mul, Nat.add_zero, Nat.mod_eq_of_lt h]
  | i + 1 => by rw [sIt, nextN, sIt_is h i]; omega
def keyN (key : Int) : Nat := (IntKind.u64.wrap key).toNat
theorem keyN_is (key : Int) : IntKind.u64.wrap key = (keyN key : Int) := by
  unfold keyN; rw [IntKind.wrap_u64]; omega
theorem keyN_lt (key : Int) : keyN key < 18446744073709551616 := by
  unfold keyN; rw [IntKind.wrap_u64]; omega
def plc (s k i : Nat) : Nat := mixN (sIt k (i + 1)) % s
def plcTo (s k m : Nat) : List Int := (List.range m).map fun (i : Nat) => (plc s k i : Int)
theorem plcTo_next (s k m : Nat) : plcTo s k (m + 1) = plcTo s k m ++ [(plc s k m : Int)] := by
  unfold plcTo; rw [List.range_succ, List.map_append]; rfl
theorem plcTo_len (s k m : Nat) : (plcTo s k m).length = m := by simp [plcTo]
theorem wrap64_id (n : Int) (h1 : -9223372036854775808 ≤ n) (h2 : n ≤ 9223372036854775807) : wrap64 n = n := by unfold wrap64; omega
def PlcRet (w : World) (m : Nat) (zs : List Int) (e : Ending) (w' : World) : Prop :=
  ∃ A c, e = .returned (.slice A m c) ∧ Own w' w.heap.size 3 1 A m c (ints zs) ∧ Below w.heap.size w w'
section
variable {A : Option Addr} {n c s m : Nat} {key : Int} {w : World}
set_option maxRecDepth 100000 in
set_option maxHeartbeats 1600000 in
theorem places_ok (s1 : 1 ≤ s) (s2 : s ≤ 256) (m2 : m ≤ 8) :
    Calls Try.prog 68 #[.agg #[.int .i64 (s : Int), .int .i64 (m : Int), .slice A n c], .int .i64 key] w (PlcRet w m (plcTo s (keyN key) m)) := by
  have HK := hide (keyN_lt key)
  have ek := keyN_is key
  obtain ⟨k, hk⟩ : ∃ k, keyN key = k := ⟨_, rfl⟩
  rw [hk] at HK ek ⊢
  clear hk
  have es : IntKind.u64.wrap (s : Int) = (s : Int) := by rw [IntKind.wrap_u64]; omega
  have b0 := (Blk.new w 42 #[.int .i64 (s : Int), .int .i64 (m : Int), .slice A n c])
  have hb0 : Below w.heap.size w (w.alloc (.cells #[.int .i64 (s : Int), .int .i64 (m : Int), .slice A n c] 42)) := (Below.refl _ _).alloc (Nat.le_refl _) _
  have HB0 := hide b0
  have HBB := hide hb0
  clear b0 hb0
  go_enter Try.func68, Try.ntmps68
  go_wp2_with fail
  obtain ⟨w0, hw0⟩ : ∃ w0, w.alloc (.cells #[.int .i64 (s : Int), .int .i64 (m : Int), .slice A n c] 42) = w0 := ⟨_, rfl⟩
  have b0 := HB0.out
  have hb0 := HBB.out
  rw [hw0] at b0 hb0 ⊢
  have z0 := hb0.size
  have hl0 := b0.lt
  clear HB0 HBB hw0
  go_loopw [5, 6, 12] (fun vo vs vi wr => ∃ (i : Nat) (Ao : Option Addr) (co : Nat), i ≤ m ∧ vi = .int .i64 i ∧ vs = .int .u64 (sIt k i : Int) ∧ vo = .slice Ao i co ∧ Own wr w0.heap.size 3 1 Ao i co (ints (plcTo s k i)) ∧ Below w0.heap.size w0 wr) (fun _ _ i _ => m - (intOf i).toNat)
  case atStart => exact ⟨0, none, 0, Nat.zero_le _, rfl, rfl, rfl, Own.nil _ _ _ _, Below.refl _ _⟩
  case round =>
    obtain ⟨i, Ao, co, hi, rfl, rfl, rfl, own, hb⟩ := hrel
    have zr := hb.size
    have bw := b0.below hb hl0
    by_cases hlt : i < m
    · have hx := sIt_lt HK.out i
      have HN := hide (fun w => next_any (sIt k i) hx w)
      have HS := hide (show sIt k (i + 1) = nextN (sIt k i) from rfl)
      have HP := hide (plcTo_next s k i)
      have hpl : plc s k i < s := Nat.mod_lt _ (by omega)
      have ep : ((mixN (nextN (sIt k i)) : Nat) : Int) % (s : Int) = (plc s k i : Int) := rfl
      obtain ⟨X, hX⟩ : ∃ X, nextN (sIt k i) = X := ⟨_, rfl⟩
      rw [hX] at HN HS ep
      obtain ⟨M, hM⟩ : ∃ M, mixN X = M := ⟨_, rfl⟩
      rw [hM] at HN ep
      obtain ⟨p, hp⟩ : ∃ p, plc s k i = p := ⟨_, rfl⟩
      rw [hp] at HP hpl ep
      clear hX hM hp hx
      have c0 : wr.cell? ⟨w.heap.size, 0, none⟩ = some (.int .i64 (s : Int)) := bw.at_ (i := 0) rfl
      have HEP := hide (show wrap64 ((M : Int) % (s : Int)) = (p : Int) by rw [ep]; exact wrap64_id _ (by omega) (by omega))
      clear ep
      go_wp2_with fail
      refine (HN.out _).mono ?_
      rintro e w' ⟨rfl, rfl⟩
      go_wp2_with (at_builtin; rw [HEP.out]; refine wpList_append_sl T_int rfl _ _ rfl (by rfl) (by rfl) (own.alloc _) (Sl.lit (at_new _ _)) (ints_one [(p : Int)]) (by simp only [maxLen]; omega) (by omega) (by simp; omega) ?_; intro A3 c3 w3 ap)
      have own3 := ap.own
      have hb3 : Below w0.heap.size w0 w3 := (hb.alloc zr _).trans ap.below
      rw [show ints (plcTo s k i) ++ [Value.int .i64 (p : Int)] = ints (plcTo s k (i + 1)) from by rw [HP.out, ints_append]; rfl] at own3
      clear ap
      go_wp2_with fail
      go_roundw
      case rel => exact ⟨i + 1, A3, c3, by omega, by go_num, by rw [HS.out], rfl, own3, hb3⟩
      case measure => simp [intOf]; omega
    · obtain rfl : i = m := by omega
      go_wp2_with fail
      go_ret
      exact ⟨_, _, rfl, own.mono z0, below_on hb0 hb⟩
end
end Go.Proofs.Ytjmkejindmgckaa
