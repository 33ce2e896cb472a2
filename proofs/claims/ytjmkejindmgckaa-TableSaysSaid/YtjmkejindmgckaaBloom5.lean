/-
  bloom.Has where the filter may be: the walk. Condition: the bits read as a list.
-/
import Derived.Test.YtjmkejindmgckaaBloom4
import Derived.Test.YtjmkejindmgckaaFunc2
namespace Go.Proofs.Ytjmkejindmgckaa
open Go.RowKit

/-- Is the bit clear? -/
def clearAt (bs : List Bool) (x : Int) : Bool := !bs.getD x.toNat false
theorem plc_mem {s k m : Nat} {x : Int} (h0 : 0 < s) (h : x ∈ plcTo s k m) : ∃ i : Nat, i < s ∧ x = (i : Int) := by
  unfold plcTo at h
  obtain ⟨i, _, rfl⟩ := List.mem_map.1 h
  exact ⟨_, plc_lt h0, rfl⟩
set_option maxRecDepth 100000 in
set_option maxHeartbeats 3200000 in
theorem bloomHas_ok {A : Option Addr} {n c m : Nat} {key : Int} {bs : List Bool} {w : World} (h : Sb w A n c bs) (he : fltErr n m n = 0) :
    Calls Try.prog 21 #[.agg #[.int .i64 (n : Int), .int .i64 (m : Int), .slice A n c], .int .i64 key] w fun e w' => e = .returned (.tuple #[.bool (noneTo (clearAt bs) (plcTo n (keyN key) m) m), .int .i64 0]) ∧ Below w.heap.size w w' := by
  obtain ⟨s1, s2, k1, k2, _⟩ := fltErr_zero he
  have n1 : 1 ≤ n := by omega
  have n2 : n ≤ 256 := by omega
  have m2 : m ≤ 8 := by omega
  have H := hide he
  have HBL := hide h.blen
  have CP := hide (fun (w : World) => places_ok (A := A) (n := n) (c := c) (s := n) (m := m) (key := key) (w := w) n1 n2 m2)
  obtain ⟨ps, hps⟩ : ∃ ps, plcTo n (keyN key) m = ps := ⟨_, rfl⟩
  have HPM := hide (fun (x : Int) (hx : x ∈ ps) => plc_mem (s := n) (k := keyN key) (m := m) n1 (by rw [hps]; exact hx))
  rw [hps] at CP ⊢
  obtain ⟨R, hR⟩ : ∃ R, noneTo (clearAt bs) ps m = R := ⟨_, rfl⟩
  rw [hR]
  have HR := hide hR
  clear hR
  have eg := enters_of Try.func69 (by kernel_rfl) rfl
  clear he hps s1 s2 k1 k2
  go_enter Try.func21, Try.ntmps21
  go_wp2_with fail
  refine (bloomCheck_is h.len_max H.out).mono ?_
  rintro e w1 ⟨rfl, hb1⟩
  have hw1 : Below w.heap.size w w1 := below_on (by repeat' (first | assumption | with_reducible exact Below.refl _ _ | with_reducible apply Below.drew | with_reducible apply below_drewN | with_reducible apply below_alloc | with_reducible refine below_set ?_ ?_ _ | (simp only [World.size_alloc, World.heap_drewN]; omega) | (simp; omega))) hb1
  have bf := (Blk.new w 42 #[.int .i64 (n : Int), .int .i64 (m : Int), .slice A n c]).below hb1 (by simp only [World.size_alloc]; omega)
  have r0 : w1.cell? ⟨w.heap.size, 0, none⟩ = some (.int .i64 (n : Int)) := bf.at_ (i := 0) rfl
  have r1 : w1.cell? ⟨w.heap.size, 1, none⟩ = some (.int .i64 (m : Int)) := bf.at_ (i := 1) rfl
  have r2 : w1.cell? ⟨w.heap.size, 2, none⟩ = some (.slice A n c) := bf.at_ (i := 2) rfl
  go_wp2_with fail
  refine (CP.out _).mono ?_
  rintro e w2 ⟨A4, c4, rfl, own4, hb2⟩
  have hw2 := below_on hw1 hb2
  have bf2 := bf.below hb2 bf.lt
  have h2 := h.on hw2
  have hl2 := bf2.lt
  have HD := hide (show ∀ x ∈ ps, ∀ W, Below w2.heap.size w2 W → Calls Try.prog 69 #[.int .i64 x, .pointer (some ⟨w.heap.size, 0, none⟩)] W fun e w' => e = .returned (.bool (clearAt bs x)) ∧ W = w' from by
    intro x hx W hW
    obtain ⟨i, hi, rfl⟩ := HPM.out x hx
    have hbi : bs[i]? = some (bs.getD i false) := by rw [List.getD, List.getElem?_eq_getElem (by rw [HBL.out]; exact hi)]; rfl
    have := hasFn_any (w := W) (b := w.heap.size) ((bf2.below hW hl2).at_ (i := 2) rfl) (h2.on hW) hi hbi
    unfold clearAt
    rw [Int.toNat_natCast]
    exact this)
  have HC := hide (containsFunc_cap _ _ _ eg A4 m c4 ps w2 own4.sl HD.out (b := !R) (by rw [HR.out]))
  clear HD eg r0 r1 r2
  cases R
  all_goals
    go_wp2_with fail
    refine HC.out.mono ?_
    rintro e w3 ⟨rfl, hb3⟩
    have hw3 := below_on hw2 hb3
    go_wp2_with fail
    go_ret2
    exact ⟨rfl, hw3⟩
end Go.Proofs.Ytjmkejindmgckaa
