/-
  culref.Key: the walk; what it asks of its shelf. Conditions: a text's length.
-/
import Derived.Test.YtkliebhpdcjdgaaDoorState
namespace Go.Proofs.YtkliebhpdcjdgaaDoor
open Go.RowKit Go.Shelf

def keyCs : ByteArray := ⟨#[97, 98, 99, 100, 101, 102, 103, 104, 105, 106, 107, 108, 109, 110, 111, 112, 113, 114, 115, 116, 117, 118, 119, 120, 121, 122, 48, 49, 50, 51, 52, 53, 54, 55, 56, 57]⟩
theorem kc_is (c : UInt8) : decide (0 ≤ Lib.indexByte keyCs.data.toList c) = isKc c := by
  have : ∀ n, n < 256 → decide (0 ≤ Lib.indexByte keyCs.data.toList (UInt8.ofNat n)) = isKc (UInt8.ofNat n) := by decide +kernel
  have h := this c.toNat c.toNat_lt
  rwa [UInt8.ofNat_toNat] at h
theorem kix_any (c : UInt8) (w : World) : Calls Tryd.prog 50 #[.string ⟨#[97, 98, 99, 100, 101, 102, 103, 104, 105, 106, 107, 108, 109, 110, 111, 112, 113, 114, 115, 116, 117, 118, 119, 120, 121, 122, 48, 49, 50, 51, 52, 53, 54, 55, 56, 57]⟩, .int .u8 c.toNat] w fun e w' => ∃ K : Int, e = .returned (.int .i64 K) ∧ (isKc c = true → 0 ≤ K) ∧ (isKc c = false → K < 0) ∧ w = w' := by
  refine (Any.strings_IndexByte laysIB keyCs (c.toNat : Int) w).mono ?_
  rintro e w' ⟨rfl, rfl⟩
  rw [show (((c.toNat : Nat) : Int)).toNat.toUInt8 = c by simp]
  refine ⟨_, rfl, fun h => ?_, fun h => ?_, rfl⟩
  · rw [← kc_is] at h
    exact of_decide_eq_true h
  · rw [← kc_is] at h
    have := of_decide_eq_false h
    omega
def valCs : ByteArray := ⟨#[44, 61, 59]⟩
theorem vc_is (c : UInt8) : decide (0 ≤ Lib.indexByte valCs.data.toList c) = decide (c.toNat = 44 ∨ c.toNat = 61 ∨ c.toNat = 59) := by
  have : ∀ n, n < 256 → decide (0 ≤ Lib.indexByte valCs.data.toList (UInt8.ofNat n)) = decide ((UInt8.ofNat n).toNat = 44 ∨ (UInt8.ofNat n).toNat = 61 ∨ (UInt8.ofNat n).toNat = 59) := by decide +kernel
  have h := this c.toNat c.toNat_lt
  rwa [UInt8.ofNat_toNat] at h
theorem vix_any (c : UInt8) (w : World) : Calls Tryd.prog 50 #[.string ⟨#[44, 61, 59]⟩, .int .u8 c.toNat] w fun e w' => ∃ K : Int, e = .returned (.int .i64 K) ∧ (0 ≤ K ↔ c.toNat = 44 ∨ c.toNat = 61 ∨ c.toNat = 59) ∧ w = w' := by
  refine (Any.strings_IndexByte laysIB valCs (c.toNat : Int) w).mono ?_
  rintro e w' ⟨rfl, rfl⟩
  rw [show (((c.toNat : Nat) : Int)).toNat.toUInt8 = c by simp]
  refine ⟨_, rfl, ?_, rfl⟩
  have h := vc_is c
  exact ⟨fun h1 => of_decide_eq_true (h ▸ decide_eq_true h1), fun h1 => of_decide_eq_true (h.trans (decide_eq_true h1))⟩
theorem key_end {l : List UInt8} (hk : kcTo l l.length = true) : inR (l.length : Int) 1 16 = keyOk l := by
  unfold keyOk inR
  rw [hk, Bool.and_true]
  congr 1
  apply propext
  omega
/-- What the bytes of a text are, copied into a row. -/
def RowOf (w : World) (g : Nat) (l : List UInt8) : Prop := ∀ k, k < l.length → w.cell? ⟨g, k, none⟩ = some (.int .u8 ((l.getD k 0).toNat : Int))
theorem row_made (w : World) (l : List UInt8) (cap : Nat) : RowOf (w.drew.alloc (.cells (bytesRow (tx l) cap) 5 ((bytesRow (tx l) cap).size, (bytesRow (tx l) cap).size + 1))) w.heap.size l := by
  intro k hk
  have hk2 : k < (tx l).size := by rw [tx_size]; exact hk
  rw [← tx_at hk2]
  rw [show w.heap.size = w.drew.heap.size from rfl, World.cell?_alloc_mark]
  have hk' : k < (tx l).data.size := hk2
  unfold bytesRow
  rw [Array.getElem?_append_left (by simpa using hk')]
  simp [hk']
  exact ⟨(tx l).data[k], by simp [hk'], rfl⟩
theorem RowOf.below {w w' : World} {g B : Nat} {l : List UInt8} (h : RowOf w g l) (hb : Below B w w') (hg : g < B) : RowOf w' g l := fun k hk => by rw [hb.cell (p := ⟨g, k, none⟩) hg]; exact h k hk

set_option maxRecDepth 20000 in
set_option maxHeartbeats 1600000 in
theorem rkey_any {l : List UInt8} (hl : l.length ≤ 140737488351232) (w : World) :
    Calls Tryd.prog 29 #[.string (tx l)] w fun e w' => e = .returned (.bool (keyOk l)) ∧ Below w.heap.size w w' := by
  have hsz := tx_size l
  have hrow := row_made w l
  obtain ⟨s, hs⟩ : ∃ s, tx l = s := ⟨_, rfl⟩
  rw [hs] at hsz ⊢
  simp only [hs] at hrow
  clear hs
  go_enter Tryd.func29, Tryd.ntmps29
  go_wp2_with fail
  rw [run_bytes_of_string _ _ _ 5 s (by kernel_rfl) (by kernel_rfl) (by kernel_rfl)]
  have hbel : Below w.heap.size w (w.drew.alloc (.cells (bytesRow s (grownCap w s.size 0 5)) 5 ((bytesRow s (grownCap w s.size 0 5)).size, (bytesRow s (grownCap w s.size 0 5)).size + 1))) := by repeat' (first | assumption | with_reducible exact Below.refl _ _ | with_reducible apply Below.drew | with_reducible apply below_drewN | with_reducible apply below_alloc | with_reducible refine below_set ?_ ?_ _ | (simp only [World.size_alloc, World.heap_drewN]; omega) | (simp; omega))
  have hcell := hrow (grownCap w s.size 0 5)
  generalize grownCap w s.size 0 5 = cap at hbel hcell ⊢
  generalize w.drew.alloc (.cells (bytesRow s cap) 5 ((bytesRow s cap).size, (bytesRow s cap).size + 1)) = w1 at hbel hcell ⊢
  have HCL := hide hcell
  clear hcell hrow
  rw [hsz]
  go_wp2_with fail
  go_loop [8] (fun i => ∃ k : Nat, k ≤ l.length ∧ i = .int .i64 k ∧ kcTo l k = true) (fun i => l.length - (intOf i).toNat)
  case atStart => exact ⟨0, Nat.zero_le _, rfl, rfl⟩
  case round =>
    obtain ⟨k, hk, rfl, hx⟩ := hrel
    have HX := hide hx
    clear hx
    by_cases hlt : k < l.length
    · have hc := HCL.out k hlt
      obtain ⟨c, hcc⟩ : ∃ c, l.getD k 0 = c := ⟨_, rfl⟩
      have HC := hide hcc
      rw [hcc] at hc
      clear hcc
      cases hh : isKc c
      · have HH := hide hh
        clear hh
        go_wp2_with fail
        refine (kix_any c _).mono ?_
        rintro e w' ⟨K, rfl, k1, k2, rfl⟩
        have k3 := k2 HH.out
        clear k1 k2
        go_wp2_with fail
        rw [keyOk_no hlt (by rw [HC.out]; exact HH.out)]
        go_ret
        exact ⟨rfl, hbel⟩
      · have HH := hide hh
        clear hh
        go_wp2_with fail
        refine (kix_any c _).mono ?_
        rintro e w' ⟨K, rfl, k1, k2, rfl⟩
        have k3 := k1 HH.out
        clear k1 k2
        go_wp2_with fail
        exact ⟨⟨k + 1, by omega, by go_num, okTo_next HX.out (by show isKc (l.getD k 0) = true; rw [HC.out]; exact HH.out)⟩, by simp [intOf]; omega⟩
    · obtain rfl : k = l.length := by omega
      have HE := hide (key_end HX.out)
      go_wp2_with fail
      refine (within_any _ _ _ _).mono ?_
      rintro e w' ⟨rfl, rfl⟩
      go_wp2_with fail
      rw [HE.out]
      go_ret
      exact ⟨rfl, hbel⟩
end Go.Proofs.YtkliebhpdcjdgaaDoor
