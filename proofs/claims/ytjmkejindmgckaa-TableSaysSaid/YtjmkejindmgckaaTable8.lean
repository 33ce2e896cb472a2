/-
  The closures of cullaw.TableSays: the walks. Conditions: what they captured.
-/
import Derived.Test.YtjmkejindmgckaaTable7
namespace Go.Proofs.Ytjmkejindmgckaa
open Go.RowKit

section
variable {A : Option Addr} {n c m : Nat} {os : List Row} {w : World} {b4 b6 b7 : Nat} {key x : Int}
set_option maxRecDepth 20000 in
set_option maxHeartbeats 1600000 in
theorem tfn1 (m1 : 1 ≤ m) (m2 : m ≤ 32) (h0 : w.cell? ⟨b4, 0, none⟩ = some (.int .i64 (m : Int))) (h1 : w.cell? ⟨b4, 1, none⟩ = some (.slice A n c)) (h6 : w.cell? ⟨b6, 0, none⟩ = some (.int .i64 key)) (h7 : w.cell? ⟨b7, 0, none⟩ = some (.int .i64 x)) (l7 : b7 < w.heap.size) {i k : Nat} (hi : i < 4) (hk : k < m) :
    Calls Try.prog 48 #[.int .i64 (i : Int), .int .i64 (k : Int), .pointer (some ⟨b4, 0, none⟩), .pointer (some ⟨b6, 0, none⟩), .pointer (some ⟨b7, 0, none⟩)] w fun e w' => e = .returned (.int .i64 (atPlace (plcI m key) x i k)) ∧ Below w.heap.size w w' := by
  have HC := hide (fun w => rplace_any (A := A) (n := n) (c := c) (key := key) (w := w) m1 m2 (show i < 1000 by omega))
  have HL := hide (plcI_lt (s := m) (by omega) key i)
  have HA := hide (show atPlace (plcI m key) x i k = if k = plcI m key i then x else 0 from rfl)
  obtain ⟨p, hp⟩ : ∃ p, plcI m key i = p := ⟨_, rfl⟩
  rw [hp] at HC HL HA
  clear hp
  have hl := HL.out
  by_cases e : k = p
  · have HE := hide e
    have t1 : ((k : Int) == (p : Int)) = true := by rw [e]; exact beq_self_eq_true _
    clear e
    go_enter Try.func48, Try.ntmps48
    go_wp2_with fail
    refine (HC.out _).mono ?_
    rintro e w1 ⟨rfl, hb1⟩
    have h71 : w1.cell? ⟨b7, 0, none⟩ = some (.int .i64 x) := (hb1.cell (p := ⟨b7, 0, none⟩) l7).trans h7
    go_wp2_with fail
    go_ret
    exact ⟨by rw [HA.out, if_pos HE.out]; rfl, hb1⟩
  · have HE := hide e
    have t1 : ((k : Int) == (p : Int)) = false := by simp; omega
    clear e
    go_enter Try.func48, Try.ntmps48
    go_wp2_with fail
    refine (HC.out _).mono ?_
    rintro e w1 ⟨rfl, hb1⟩
    go_wp2_with fail
    go_ret
    exact ⟨by rw [HA.out, if_neg HE.out]; rfl, hb1⟩
set_option maxRecDepth 20000 in
set_option maxHeartbeats 1600000 in
theorem tfn2 (h : Ss w A n c os) (h1 : w.cell? ⟨b4, 1, none⟩ = some (.slice A n c)) {i k : Nat} (hi : i < n) {o : Row} (ho : os[i]? = some o) (hk : k < o.2.1) (ho2 : o.2.1 ≤ 32) (n4 : n ≤ 4) :
    Calls Try.prog 49 #[.int .i64 (i : Int), .int .i64 (k : Int), .pointer (some ⟨b4, 0, none⟩)] w fun e w' => e = .returned (.int .i64 (atOf (rows os) i k)) ∧ Below w.heap.size w w' := by
  obtain ⟨ad, o', rfl, hb, ho', hc, hs⟩ := h.cell hi
  rw [ho] at ho'
  injection ho' with ho'
  subst ho'
  obtain ⟨Ar, nr, cr, zs⟩ := o
  dsimp only at hc hs hk ho2
  obtain ⟨ad2, x, rfl, hb2, hx, hcx⟩ := hs.icell hk
  have HA := hide (show atOf (rows os) i k = x by unfold atOf; rw [getD_of (rows_at ho), getD_of hx])
  clear ho hx
  go_enter Try.func49, Try.ntmps49
  go_wp2_with fail
  go_ret
  exact ⟨by rw [HA.out]; rfl, Below.refl _ _⟩
end
end Go.Proofs.Ytjmkejindmgckaa
