/-
  culref.Read: the walk. Conditions: the text's length.
-/
import Derived.Test.YtkliebhpdcjdgaaDoorRead
import Derived.Test.YtkliebhpdcjdgaaDoorReadP
import Derived.Deep.RegionLaw
namespace Go.Proofs.YtkliebhpdcjdgaaDoor
open Go.RowKit Go.Shelf

theorem rdErr_in {l x : List UInt8} (h : ¬ 200 < l.length) (h0 : ¬ l.length = 0) (hx : x ∈ pieces 44 l) (hc : cutOk 61 x = false) : rdErr l = 3 := by
  obtain ⟨i, hi⟩ := List.getElem?_of_mem hx
  exact rdErr_form h h0 hi hc
/-- The pairs that are whole behind the first k bytes. -/
def outTo (l : List UInt8) (k : Nat) : List Pr := (wh l k).map rdPair
theorem outTo_next {l : List UInt8} {k : Nat} (h : wh l (k + 1) = wh l k ++ [lt l k]) : outTo l (k + 1) = outTo l k ++ [rdPair (lt l k)] := by unfold outTo; rw [h]; simp
theorem outTo_same {l : List UInt8} {k : Nat} (h : wh l (k + 1) = wh l k) : outTo l (k + 1) = outTo l k := by unfold outTo; rw [h]
theorem tx_one (l : List UInt8) (b : UInt8) : tx l ++ tx [b] = tx (l ++ [b]) := tx_app l [b]
theorem tx_piece {l : List UInt8} {k : Nat} (h : k < l.length) : (tx l).extract k (k + 1) = tx [l.getD k 0] := by
  have e : (l.drop k).take 1 = [l.getD k 0] := by
    rw [List.drop_eq_getElem_cons h, List.take_succ_cons, List.take_zero]
    simp [List.getD, List.getElem?_eq_getElem h]
  apply ByteArray.ext
  apply Array.ext'
  rw [← e]
  simp [tx, ByteArray.data_extract, Array.toList_extract, List.extract_eq_take_drop]
set_option maxRecDepth 20000 in
set_option maxHeartbeats 3200000 in
theorem rread_any {l : List UInt8} (hl : l.length ≤ 140737488351232) {w : World} :
    Calls Tryd.prog 32 #[.string (tx l)] w (SetRet w (rdRes l) (rdErr l)) := by
  have hsz := tx_size l
  by_cases g1 : 200 < l.length
  · rw [rdErr_large g1, rdRes_bad (by rw [rdErr_large g1]; decide)]
    generalize tx l = s at hsz ⊢
    go_enter Tryd.func32, Tryd.ntmps32
    go_wp2_with fail
    go_ret2
    exact setRet_nil (Below.refl _ _)
  · by_cases g0 : l.length = 0
    · have hl0 : l = [] := List.eq_nil_of_length_eq_zero g0
      subst hl0
      rw [rdErr_none rfl, rdRes_none rfl]
      have e0 := empty_yes
      generalize tx [] = s at hsz e0 ⊢
      go_enter Tryd.func32, Tryd.ntmps32
      go_wp2_with fail
      go_ret2
      exact setRet_nil (Below.refl _ _)
    · have e0 := empty_no (l := l) (by intro e; rw [e] at g0; exact g0 rfl)
      have HG := hide (fun k (h : k < (tx l).size) => tx_at (l := l) h)
      have HPC := hide (fun k (h : k < l.length) => tx_piece (l := l) h)
      have G1 := hide g1
      have G0 := hide g0
      obtain ⟨N, hN⟩ : ∃ N, l.length = N := ⟨_, rfl⟩
      have hN2 : N ≤ 200 := by omega
      have HN := hide hN
      obtain ⟨S, hS⟩ : ∃ S, tx l = S := ⟨_, rfl⟩
      rw [hS] at HG HPC hsz e0 ⊢
      rw [hN] at hsz
      have b0 : Blk (w.alloc (.cells #[.string ⟨#[]⟩, .string ⟨#[]⟩] 45)) w.heap.size 45 #[.string ⟨#[]⟩, .string ⟨#[]⟩] := Blk.new w _ _
      have k0 : Below w.heap.size w (w.alloc (.cells #[.string ⟨#[]⟩, .string ⟨#[]⟩] 45)) := below_alloc (Below.refl _ _) _
      have z0 : w.heap.size + 1 ≤ (w.alloc (.cells #[.string ⟨#[]⟩, .string ⟨#[]⟩] 45)).heap.size := by rw [World.size_alloc]; exact Nat.le_refl _
      clear hS hN g0 g1 hl
      go_enter Tryd.func32, Tryd.ntmps32
      go_wp2_with fail
      generalize (w.alloc (.cells #[.string ⟨#[]⟩, .string ⟨#[]⟩] 45)) = w1 at b0 k0 z0 ⊢
      have b0' : Blk w1 w.heap.size 45 #[.string (tx (cutB 61 (lt l 0))), .string (tx (cutA 61 (lt l 0)))] := by rw [lt_zero]; exact b0
      have i0 : cutOk 61 (lt l 0) = false := by rw [lt_zero]; rfl
      have o0 : outTo l 0 = [] := by unfold outTo; rw [wh_zero]; rfl
      go_loopw [4, 6, 7] (fun v u i wr => ∃ (k : Nat) (A' : Option Addr) (c' m : Nat), k ≤ N + 1 ∧ i = .int .i64 k ∧ v = .slice A' m c' ∧ m ≤ k ∧ u = .bool (cutOk 61 (lt l k)) ∧ Hid (∀ x ∈ wh l k, cutOk 61 x = true) ∧ Blk wr w.heap.size 45 #[.string (tx (cutB 61 (lt l k))), .string (tx (cutA 61 (lt l k)))] ∧ Own wr (w.heap.size + 1) 45 2 A' m c' (sps (outTo l k)) ∧ Below w.heap.size w wr ∧ w.heap.size + 1 ≤ wr.heap.size) (fun _ _ i _ => N + 1 - (intOf i).toNat)
      case atStart => exact ⟨0, none, 0, 0, by omega, rfl, rfl, Nat.le_refl _, by rw [i0], hide (by rw [wh_zero]; intro x hx; cases hx), b0', by rw [o0]; exact Own.nil _ _ _ _, k0, z0⟩
      case round =>
        clear b0 b0' i0 o0 k0 z0
        obtain ⟨k, A', c', m, hk, rfl, rfl, hmk, rfl, HA, bp, own, hb, hz⟩ := hrel
        have hll := lt_le l k
        rw [HN.out] at hll
        obtain ⟨hB, hA⟩ := cutB_le 61 (lt l k)
        have sB : (tx (cutB 61 (lt l k))).size ≤ 200 := by rw [tx_size]; omega
        have sA : (tx (cutA 61 (lt l k))).size ≤ 200 := by rw [tx_size]; omega
        have HPR : Hid (rdPair (lt l k) = (tx (cutB 61 (lt l k)), tx (cutA 61 (lt l k)))) := hide rfl
        by_cases hle : k ≤ N
        · by_cases hcm : k = N ∨ l.getD k 0 = 44
          · -- a comma, or the end
            obtain ⟨hw, hlt0⟩ := stepComma (l := l) (k := k) (by rw [HN.out]; exact hle) (by rw [HN.out]; exact hcm)
            have hin := lt_in (l := l) (k := k) (by rw [HN.out]; exact hle) (by rw [HN.out]; exact hcm)
            have HO := hide (outTo_next hw)
            have HW := hide hw
            have HL0 := hide hlt0
            rw [HPR.out] at HO
            obtain ⟨KB, hKB⟩ : ∃ KB, tx (cutB 61 (lt l k)) = KB := ⟨_, rfl⟩
            obtain ⟨VB, hVB⟩ : ∃ VB, tx (cutA 61 (lt l k)) = VB := ⟨_, rfl⟩
            rw [hKB] at bp HO sB
            rw [hVB] at bp HO sA
            have q0 := bp.at_ (i := 0) (u := .string KB) rfl
            have q1 := bp.at_ (i := 1) (u := .string VB) rfl
            have hcase : ((k : Int) == (N : Int)) = true ∨ (((k : Int) == (N : Int)) = false ∧ k < N ∧ l.getD k 0 = 44) := by
              rcases hcm with h | h
              · exact .inl (by rw [h]; simp)
              · by_cases e : k = N
                · exact .inl (by rw [e]; simp)
                · exact .inr ⟨by simp; omega, by omega, h⟩
            cases hio : cutOk 61 (lt l k)
            · have HE := hide (rdErr_in G1.out G0.out hin hio)
              clear hw hlt0 hin hKB hVB hio hcm HO HW HL0 HA HPR
              rcases hcase with te | ⟨te, hkN, hc44⟩
              · go_wp2_with fail
                rw [HE.out, rdRes_bad (by rw [HE.out]; decide)]
                go_ret2
                exact setRet_nil hb
              · have hbk : ∀ h : k < S.size, S[k]'h = 44 := fun h => by rw [HG.out k h, hc44]
                clear hc44
                go_wp2_with fail
                rw [HE.out, rdRes_bad (by rw [HE.out]; decide)]
                go_ret2
                exact setRet_nil hb
            · have HA2 := hide (show ∀ x ∈ wh l (k + 1), cutOk 61 x = true from fun x hx => by
                rw [hw] at hx
                rcases List.mem_append.1 hx with hx | hx
                · exact HA.out x hx
                · rw [List.mem_singleton] at hx; subst hx; exact hio)
              have hna : blockOf A' ≠ some w.heap.size := fun e => by have := (own.blk e).1; omega
              clear hw hlt0 hin hKB hVB hio hcm HW HA HPR
              have hfin : ∀ (A3 : Option Addr) (c3 : Nat) (w3 : World), Apped (wr.alloc (.cells (sps [(KB, VB)]).toArray 45)) w3 (w.heap.size + 1) 45 2 A' A3 (m + 1) c3 (sps (outTo l k) ++ sps [(KB, VB)]) →
                  Blk w3 w.heap.size 45 #[.string KB, .string VB] ∧ Own ((w3.setCell ⟨w.heap.size, 0, none⟩ (.string ⟨#[]⟩)).setCell ⟨w.heap.size, 1, none⟩ (.string ⟨#[]⟩)) (w.heap.size + 1) 45 2 A3 (m + 1) c3 (sps (outTo l (k + 1))) ∧
                  Blk ((w3.setCell ⟨w.heap.size, 0, none⟩ (.string ⟨#[]⟩)).setCell ⟨w.heap.size, 1, none⟩ (.string ⟨#[]⟩)) w.heap.size 45 #[.string (tx (cutB 61 (lt l (k + 1)))), .string (tx (cutA 61 (lt l (k + 1))))] ∧
                  Below w.heap.size w ((w3.setCell ⟨w.heap.size, 0, none⟩ (.string ⟨#[]⟩)).setCell ⟨w.heap.size, 1, none⟩ (.string ⟨#[]⟩)) ∧ w.heap.size + 1 ≤ ((w3.setCell ⟨w.heap.size, 0, none⟩ (.string ⟨#[]⟩)).setCell ⟨w.heap.size, 1, none⟩ (.string ⟨#[]⟩)).heap.size := by
                intro A3 c3 w3 ap
                have bp3 := (bp.alloc (.cells (sps [(KB, VB)]).toArray 45)).grown ap.grow hna
                have own3 := ap.own
                rw [← sps_append, ← HO.out] at own3
                have k3 : Below w.heap.size w w3 := (below_alloc hb _).trans (ap.below.mono (by omega))
                refine ⟨bp3, (own3.low (by dsimp only; omega) _).low (by dsimp only; omega) _, ?_, below_set (below_set k3 (Nat.le_refl _) _) (Nat.le_refl _) _, ?_⟩
                · rw [HL0.out]
                  exact (bp3.set 0 (.string ⟨#[]⟩)).set 1 (.string ⟨#[]⟩)
                · have := bp3.lt
                  have e1 := (below_set (below_set (Below.refl w3.heap.size w3) (p := ⟨w3.heap.size, 0, none⟩) (Nat.le_refl _) (.string ⟨#[]⟩)) (p := ⟨w3.heap.size, 1, none⟩) (Nat.le_refl _) (.string ⟨#[]⟩)).size
                  have e2 := ((((Below.refl 0 w3).setCell (p := ⟨w.heap.size, 0, none⟩) (Nat.zero_le _) (.string ⟨#[]⟩)).setCell (p := ⟨w.heap.size, 1, none⟩) (Nat.zero_le _) (.string ⟨#[]⟩))).size
                  omega
              have HFN := hide hfin
              have HI2 : Hid (cutOk 61 (lt l (k + 1)) = false) := hide (by rw [HL0.out]; rfl)
              clear hfin
              rcases hcase with te | ⟨te, hkN, hc44⟩
              · go_wp2_with (at_builtin; refine wpList_append_sl T_pair rfl _ _ rfl (by rfl) (by rfl) (own.alloc _) (Sl.blk 2 1 (cs := sps [(KB, VB)]) (e := 45) (at_new _ _) rfl (by simp [maxLen])) (sps_one [(KB, VB)]) (by simp only [maxLen]; omega) (by omega) (by simp <;> omega) ?_; intro A3 c3 w3 ap; obtain ⟨bq, oq, bz, kz, zz⟩ := HFN.out A3 c3 w3 ap; have x0 := bq.at_ (i := 0) (u := .string KB) rfl; have x1 := bq.at_ (i := 1) (u := .string VB) rfl; have u0 := bq.free 0; have u1 := bq.free 1)
                go_roundw
                case rel => exact ⟨k + 1, A3, c3, m + 1, by omega, by go_num, rfl, by omega, by rw [HI2.out], HA2, bz, oq, kz, zz⟩
                case measure => simp [intOf]; omega
              · have hbk : ∀ h : k < S.size, S[k]'h = 44 := fun h => by rw [HG.out k h, hc44]
                clear hc44
                go_wp2_with (at_builtin; refine wpList_append_sl T_pair rfl _ _ rfl (by rfl) (by rfl) (own.alloc _) (Sl.blk 2 1 (cs := sps [(KB, VB)]) (e := 45) (at_new _ _) rfl (by simp [maxLen])) (sps_one [(KB, VB)]) (by simp only [maxLen]; omega) (by omega) (by simp <;> omega) ?_; intro A3 c3 w3 ap; obtain ⟨bq, oq, bz, kz, zz⟩ := HFN.out A3 c3 w3 ap; have x0 := bq.at_ (i := 0) (u := .string KB) rfl; have x1 := bq.at_ (i := 1) (u := .string VB) rfl; have u0 := bq.free 0; have u1 := bq.free 1)
                go_roundw
                case rel => exact ⟨k + 1, A3, c3, m + 1, by omega, by go_num, rfl, by omega, by rw [HI2.out], HA2, bz, oq, kz, zz⟩
                case measure => simp [intOf]; omega
          · have hkN : k < N := by omega
            have hc44 : l.getD k 0 ≠ 44 := fun e => hcm (.inr e)
            obtain ⟨hw, hl1⟩ := stepOther (l := l) (k := k) (by rw [HN.out]; exact hkN) hc44
            have HO := hide (outTo_same hw)
            have HL1 := hide hl1
            have HA2 := hide (show ∀ x ∈ wh l (k + 1), cutOk 61 x = true by rw [hw]; exact HA.out)
            have hpc := HPC.out k (by rw [HN.out]; exact hkN)
            obtain ⟨c, hc⟩ : ∃ c, l.getD k 0 = c := ⟨_, rfl⟩
            have hbk : ∀ h : k < S.size, S[k]'h = c := fun h => by rw [HG.out k h, hc]
            rw [hc] at hpc HL1 hc44
            have te : ((k : Int) == (N : Int)) = false := by simp; omega
            have n44 : ¬ c.toNat = 44 := fun e => hc44 (UInt8.toNat_inj.1 (by simpa using e))
            have m44 : ¬ (c.toNat : Int) = 44 := by omega
            have t44 : ((c.toNat : Int) == 44) = false := by simpa using m44
            have d44 : decide ((c.toNat : Int) = 44) = false := decide_eq_false m44
            rw [← HO.out] at own
            clear hw hl1 hc hc44 hcm HA HO
            cases hio : cutOk 61 (lt l k)
            · by_cases h61 : c = 61
              · obtain ⟨e1, e2, e3⟩ := byte_sign hio
                have HB2 : Hid (cutB 61 (lt l (k + 1)) = cutB 61 (lt l k) ∧ cutA 61 (lt l (k + 1)) = cutA 61 (lt l k) ∧ cutOk 61 (lt l (k + 1)) = true) := hide (by rw [HL1.out, h61]; exact ⟨e1, e2, e3⟩)
                subst h61
                clear e1 e2 e3 hio
                go_wp2_with fail
                exact ⟨⟨k + 1, A', c', m, by omega, by go_num, rfl, by omega, by rw [HB2.out.2.2], HA2, by rw [HB2.out.1, HB2.out.2.1]; exact bp, own, hb, hz⟩, by simp [intOf]; omega⟩
              · obtain ⟨e1, e2, e3⟩ := byte_key (b := c) hio h61
                have HB2 : Hid (tx (cutB 61 (lt l (k + 1))) = tx (cutB 61 (lt l k)) ++ tx [c] ∧ cutA 61 (lt l (k + 1)) = cutA 61 (lt l k) ∧ cutOk 61 (lt l (k + 1)) = false) := hide (by rw [HL1.out, tx_one]; exact ⟨by rw [e1], e2, e3⟩)
                have n61 : ¬ c.toNat = 61 := fun e => h61 (UInt8.toNat_inj.1 (by simpa using e))
                have m61 : ¬ (c.toNat : Int) = 61 := by omega
                have t61 : ((c.toNat : Int) == 61) = false := by simpa using m61
                have d61 : decide ((c.toNat : Int) = 61) = false := decide_eq_false m61
                obtain ⟨C1, hC1⟩ : ∃ C1, tx [c] = C1 := ⟨_, rfl⟩
                have sC : C1.size = 1 := by rw [← hC1, tx_size]; rfl
                rw [hC1] at hpc HB2
                obtain ⟨KB, hKB⟩ : ∃ KB, tx (cutB 61 (lt l k)) = KB := ⟨_, rfl⟩
                rw [hKB] at bp sB HB2
                obtain ⟨VB, hVB⟩ : ∃ VB, tx (cutA 61 (lt l k)) = VB := ⟨_, rfl⟩
                have HVB := hide hVB
                rw [hVB] at bp
                have q0 := bp.at_ (i := 0) (u := .string KB) rfl
                have u0 := bp.free 0
                have bp2 := bp.set 0 (.string (KB ++ C1))
                have own2 := own.low (p := ⟨w.heap.size, 0, none⟩) (by dsimp only; omega) (.string (KB ++ C1))
                have kb2 := below_set hb (p := ⟨w.heap.size, 0, none⟩) (Nat.le_refl _) (.string (KB ++ C1))
                have zz2 := ((Below.refl 0 wr).setCell (p := ⟨w.heap.size, 0, none⟩) (Nat.zero_le _) (.string (KB ++ C1))).size
                clear e1 e2 e3 h61 hio hC1 hKB hVB
                have hq1 : 0 ≤ (k : Int) + 1 := by omega
                have hq2 : (k : Int) + 1 ≤ (N : Int) := by omega
                have hq3 : (k : Int) ≤ (k : Int) + 1 := by omega
                have hq4 : ¬ 9223372036854775807 < KB.size + 1 := by omega
                have hwk : IntKind.i64.wrap ((k : Int) + 1) = (k : Int) + 1 := IntWalk.i64_in _ (by omega)
                go_wp2_with fail
                go_region_law (fail)
                go_wp2_with fail
                exact ⟨⟨k + 1, A', c', m, by omega, by go_num, rfl, by omega, by rw [HB2.out.2.2], HA2, by rw [HB2.out.1, HB2.out.2.1, HVB.out]; exact bp2.drew, own2.drew, Below.drew kb2, by have : (wr.setCell ⟨w.heap.size, 0, none⟩ (.string (KB ++ C1))).drew.heap.size = (wr.setCell ⟨w.heap.size, 0, none⟩ (.string (KB ++ C1))).heap.size := rfl; omega⟩, by simp [intOf]; omega⟩
            · obtain ⟨e1, e2, e3⟩ := byte_val (b := c) hio
              have HB2 : Hid (cutB 61 (lt l (k + 1)) = cutB 61 (lt l k) ∧ tx (cutA 61 (lt l (k + 1))) = tx (cutA 61 (lt l k)) ++ tx [c] ∧ cutOk 61 (lt l (k + 1)) = true) := hide (by rw [HL1.out, tx_one]; exact ⟨e1, by rw [e2], e3⟩)
              obtain ⟨C1, hC1⟩ : ∃ C1, tx [c] = C1 := ⟨_, rfl⟩
              have sC : C1.size = 1 := by rw [← hC1, tx_size]; rfl
              rw [hC1] at hpc HB2
              obtain ⟨KB, hKB⟩ : ∃ KB, tx (cutB 61 (lt l k)) = KB := ⟨_, rfl⟩
              have HKB := hide hKB
              rw [hKB] at bp
              obtain ⟨VB, hVB⟩ : ∃ VB, tx (cutA 61 (lt l k)) = VB := ⟨_, rfl⟩
              rw [hVB] at bp sA HB2
              have q1 := bp.at_ (i := 1) (u := .string VB) rfl
              have u1 := bp.free 1
              have bp2 := bp.set 1 (.string (VB ++ C1))
              have own2 := own.low (p := ⟨w.heap.size, 1, none⟩) (by dsimp only; omega) (.string (VB ++ C1))
              have kb2 := below_set hb (p := ⟨w.heap.size, 1, none⟩) (Nat.le_refl _) (.string (VB ++ C1))
              have zz2 := ((Below.refl 0 wr).setCell (p := ⟨w.heap.size, 1, none⟩) (Nat.zero_le _) (.string (VB ++ C1))).size
              have hq1 : 0 ≤ (k : Int) + 1 := by omega
              have hq2 : (k : Int) + 1 ≤ (N : Int) := by omega
              have hq3 : (k : Int) ≤ (k : Int) + 1 := by omega
              have hq4 : ¬ 9223372036854775807 < VB.size + 1 := by omega
              have hwk : IntKind.i64.wrap ((k : Int) + 1) = (k : Int) + 1 := IntWalk.i64_in _ (by omega)
              clear e1 e2 e3 hio hC1 hKB hVB
              go_wp2_with fail
              go_region_law (fail)
              go_wp2_with fail
              exact ⟨⟨k + 1, A', c', m, by omega, by go_num, rfl, by omega, by rw [HB2.out.2.2], HA2, by rw [HB2.out.1, HB2.out.2.1, HKB.out]; exact bp2.drew, own2.drew, Below.drew kb2, by have : (wr.setCell ⟨w.heap.size, 1, none⟩ (.string (VB ++ C1))).drew.heap.size = (wr.setCell ⟨w.heap.size, 1, none⟩ (.string (VB ++ C1))).heap.size := rfl; omega⟩, by simp [intOf]; omega⟩
        · obtain rfl : k = N + 1 := by omega
          have hwe : wh l (N + 1) = pieces 44 l := by rw [← HN.out]; exact wh_end l
          have hoe : outTo l (N + 1) = rdAll l := by unfold outTo; rw [hwe]; rfl
          rw [hoe] at own
          have hlen : (pieces 44 l).length = m := by rw [← rdAll_len]; exact own.sl.slen
          have hok : okPre l (pieces 44 l).length := fun i x _ hx => HA.out x (by rw [hwe]; exact List.mem_of_getElem? hx)
          have HRE := hide (show rdErr l = prErr m (rdAll l) by rw [rdErr_all G1.out G0.out hok, hlen])
          have HCK := hide (rpairs_any own.sl (rdAll_fit (by rw [HN.out]; omega)))
          obtain ⟨E, hE⟩ : ∃ E, prErr m (rdAll l) = E := ⟨_, rfl⟩
          rw [hE] at HCK HRE
          have sl1 := own.sl
          clear hE own hwe hoe hok hlen HA bp HPR sA sB hB hA hll hmk
          by_cases h0 : E = 0
          · subst h0
            go_wp2_with fail
            refine HCK.out.mono ?_
            rintro e w2 ⟨rfl, bel2⟩
            go_wp2_with fail
            rw [HRE.out, rdRes_ok HRE.out G0.out]
            go_ret2
            exact ⟨A', m, c', rfl, sl1.on bel2, below_on hb bel2⟩
          · have t1 : (E != 0) = true := by simpa using h0
            have HN0 := hide h0
            clear h0
            go_wp2_with fail
            refine HCK.out.mono ?_
            rintro e w2 ⟨rfl, bel2⟩
            go_wp2_with fail
            rw [HRE.out, rdRes_bad (by rw [HRE.out]; exact HN0.out)]
            go_ret2
            exact setRet_nil (below_on hb bel2)
end Go.Proofs.YtkliebhpdcjdgaaDoor
