/-
  culref.Text: the walk. Conditions: the slice reads as a list of pairs of texts; the whole text is not too long.
-/
import Derived.Test.YtkliebhpdcjdgaaDoorState4
namespace Go.Proofs.YtkliebhpdcjdgaaDoor
open Go.RowKit Go.Shelf

theorem txTo_next {ps : List Pr} {k : Nat} {p : Pr} (h : ps[k]? = some p) : txTo ps (k + 1) = txTo ps k ++ (if k = 0 then [] else [44]) ++ prText p := by rw [txTo, getD_of h]
theorem txTo_len {ps : List Pr} : ∀ {j k : Nat}, j ≤ k → (txTo ps j).length ≤ (txTo ps k).length
  | j, 0, h => by rw [show j = 0 by omega]; exact Nat.le_refl _
  | j, k + 1, h => by
    by_cases e : j = k + 1
    · rw [e]; exact Nat.le_refl _
    · refine Nat.le_trans (txTo_len (show j ≤ k by omega)) ?_
      rw [txTo, List.length_append, List.length_append]; omega
theorem tx_bl (s : ByteArray) : tx (bl s) = s := rfl
theorem text_first {ps : List Pr} {p : Pr} (h : ps[0]? = some p) : tx (txTo ps 0) ++ (p.1 ++ ⟨#[61]⟩ ++ p.2) = tx (txTo ps 1) := by
  rw [txTo_next h, if_pos rfl]
  apply ByteArray.ext
  simp [tx, txTo, prText, bl, ByteArray.data_append]
theorem text_next {ps : List Pr} {k : Nat} {p : Pr} (h : ps[k]? = some p) (h0 : ¬ k = 0) : tx (txTo ps k) ++ ⟨#[44]⟩ ++ (p.1 ++ ⟨#[61]⟩ ++ p.2) = tx (txTo ps (k + 1)) := by
  rw [txTo_next h, if_neg h0]
  apply ByteArray.ext
  simp [tx, prText, bl, ByteArray.data_append]
theorem text_size {ps : List Pr} {k : Nat} {p : Pr} (h : ps[k]? = some p) : (txTo ps k).length + p.1.size + p.2.size + 1 ≤ (txTo ps (k + 1)).length := by
  rw [txTo_next h, List.length_append, List.length_append, prText, List.length_append, List.length_cons]
  have e1 : (bl p.1).length = p.1.size := by show p.1.data.toList.length = p.1.data.size; rw [Array.length_toList]
  have e2 : (bl p.2).length = p.2.size := by show p.2.data.toList.length = p.2.data.size; rw [Array.length_toList]
  omega
set_option maxRecDepth 20000 in
set_option maxHeartbeats 3200000 in
theorem rtext_any {A : Option Addr} {n c : Nat} {ps : List Pr} {w : World} (h : Sp2 w A n c ps) (hz : (txTo ps n).length ≤ 140737488351232) :
    Calls Tryd.prog 31 #[.slice A n c] w fun e w' => e = .returned (.string (tx (txTo ps n))) ∧ Below w.heap.size w w' := by
  have hm := h.len_max
  have HZ := hide hz
  clear hz
  go_enter Tryd.func31, Tryd.ntmps31
  go_wp2_with fail
  go_loopw [3, 8] (fun v i wr => ∃ k : Nat, k ≤ n ∧ i = .int .i64 k ∧ v = .string (tx (txTo ps k)) ∧ Below w.heap.size w wr) (fun _ i _ => n - (intOf i).toNat)
  case atStart => exact ⟨0, by omega, rfl, rfl, Below.refl _ _⟩
  case round =>
    obtain ⟨k, hk, rfl, rfl, hb⟩ := hrel
    by_cases hlt : k < n
    · obtain ⟨ad, p, rfl, hbk, hp, hc0, hc1⟩ := (h.below hb).scell hlt
      have hb2 : Below w.heap.size w (wr.alloc (Obj.cells #[.string p.1, .string p.2] 45)) := below_alloc hb _
      have hs := text_size hp
      have hs2 := Nat.le_trans (txTo_len (ps := ps) (show k + 1 ≤ n by omega)) HZ.out
      have sT : (tx (txTo ps k)).size = (txTo ps k).length := tx_size _
      obtain ⟨U1, hU1⟩ : ∃ U1, p.1 ++ (⟨#[61]⟩ : ByteArray) = U1 := ⟨_, rfl⟩
      have sU1 : U1.size = p.1.size + 1 := by rw [← hU1, ByteArray.size_append]; rfl
      obtain ⟨U2, hU2⟩ : ∃ U2, U1 ++ p.2 = U2 := ⟨_, rfl⟩
      have sU2 : U2.size = p.1.size + 1 + p.2.size := by rw [← hU2, ByteArray.size_append, sU1]
      by_cases k0 : k = 0
      · have hN : tx (txTo ps k) ++ U2 = tx (txTo ps (k + 1)) := by rw [← hU2, ← hU1, k0]; exact text_first (k0 ▸ hp)
        obtain ⟨N, hNe⟩ : ∃ N, tx (txTo ps (k + 1)) = N := ⟨_, rfl⟩
        rw [hNe] at hN
        have HN := hide hNe
        generalize tx (txTo ps k) = T at hN sT ⊢
        generalize (txTo ps k).length = tl at hs sT
        have hz1 : ¬ 0 < (k : Int) := by omega
        have hz2 : ¬ 0 < k := by omega
        clear hp k0 hNe
        go_wp2_with fail
        exact ⟨⟨k + 1, by omega, by go_num, by rw [HN.out], hb2⟩, by simp [intOf]; omega⟩
      · obtain ⟨T2, hT2⟩ : ∃ T2, tx (txTo ps k) ++ (⟨#[44]⟩ : ByteArray) = T2 := ⟨_, rfl⟩
        have sT2 : T2.size = (txTo ps k).length + 1 := by rw [← hT2, ByteArray.size_append, sT]; rfl
        have hN : T2 ++ U2 = tx (txTo ps (k + 1)) := by rw [← hU2, ← hU1, ← hT2]; exact text_next hp k0
        obtain ⟨N, hNe⟩ : ∃ N, tx (txTo ps (k + 1)) = N := ⟨_, rfl⟩
        rw [hNe] at hN
        have HN := hide hNe
        generalize tx (txTo ps k) = T at hT2 sT ⊢
        generalize (txTo ps k).length = tl at hs sT sT2
        have hz1 : 0 < (k : Int) := by omega
        have hz2 : 0 < k := by omega
        clear hp k0 hNe
        go_wp2_with fail
        exact ⟨⟨k + 1, by omega, by go_num, by rw [HN.out], hb2⟩, by simp [intOf]; omega⟩
    · obtain rfl : k = n := by omega
      go_wp2_with fail
      go_ret
      exact ⟨rfl, hb⟩
end Go.Proofs.YtkliebhpdcjdgaaDoor
