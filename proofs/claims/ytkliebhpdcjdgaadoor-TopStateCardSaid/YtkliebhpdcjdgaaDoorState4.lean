/-
  culref.Pairs: the walk. Conditions: the slice reads as a list of pairs of texts; the texts' lengths.
-/
import Derived.Test.YtkliebhpdcjdgaaDoorState3
namespace Go.Proofs.YtkliebhpdcjdgaaDoor
open Go.RowKit Go.Shelf

theorem same_texts {a b : ByteArray} (h : a = b) : (a.toList == b.toList) = true := by subst h; simp
theorem other_texts {a b : ByteArray} (h : ¬ a = b) : (a.toList == b.toList) = false := by
  rw [ByteArray.toList_eq, ByteArray.toList_eq]
  have : ¬ a.data.toList = b.data.toList := fun e => h (ByteArray.ext (Array.toList_inj.1 e))
  simpa using this
/-- Is the key among those of the first j pairs? -/
def hasTo (ps : List Pr) (s : ByteArray) (j : Nat) : Bool := okTo (fun i => !decide ((ps.getD i (ByteArray.empty, ByteArray.empty)).1 = s)) j
theorem hasTo_dup {ps : List Pr} {k : Nat} {p : Pr} (hl : k ≤ ps.length) (h : ps[k]? = some p) (b : Bool) (hb : hasTo ps p.1 k = !b) : dupAt ps k = b := by
  unfold dupAt
  rw [getD_of h]
  cases b
  · rw [List.any_eq_false]
    intro q hq
    obtain ⟨i, hi⟩ := List.getElem?_of_mem hq
    have hik : i < k := by
      have := (List.getElem?_eq_some_iff.1 hi).1
      rw [List.length_take] at this
      omega
    rw [List.getElem?_take_of_lt hik] at hi
    have := okTo_at k hb hik
    rw [getD_of hi] at this
    simpa using this
  · rw [List.any_eq_true]
    obtain ⟨i, hik, hi⟩ := okTo_no k hb
    have hq : ps[i]? = some (ps[i]'(by omega)) := List.getElem?_eq_getElem (by omega)
    rw [getD_of hq] at hi
    refine ⟨ps[i]'(by omega), ?_, by simpa using hi⟩
    exact List.mem_of_getElem? (i := i) (by rw [List.getElem?_take_of_lt hik]; exact hq)
theorem valOk_nil {l : List UInt8} (h : l = []) : valOk l = false := by subst h; rfl
theorem valOk_yes {l : List UInt8} (h : ¬ l = []) (hv : vcTo l l.length = true) : valOk l = true := by
  unfold valOk
  rw [hv, Bool.and_true]
  exact decide_eq_true (fun e => h (List.eq_nil_of_length_eq_zero e))
section
variable {A : Option Addr} {n c : Nat} {ps : List Pr} {w : World}
set_option maxRecDepth 20000 in
set_option maxHeartbeats 3200000 in
theorem rpairs_any (h : Sp2 w A n c ps) (hf : Fit ps) :
    Calls Tryd.prog 27 #[.slice A n c] w fun e w' => e = .returned (.int .i64 (prErr n ps)) ∧ Below w.heap.size w w' := by
  have hm := h.len_max
  have HL := hide h.slen
  have HF := hide hf
  clear hf
  by_cases g1 : 40 < n
  · rw [prErr_large g1]
    go_enter Tryd.func27, Tryd.ntmps27
    go_wp2_with fail
    go_ret
    exact ⟨rfl, Below.refl _ _⟩
  · go_enter Tryd.func27, Tryd.ntmps27
    go_wp2_with fail
    go_loopw [14] (fun i wr => ∃ k : Nat, k ≤ n ∧ i = .int .i64 k ∧ faultTo (prStep ps) k = 0 ∧ Below w.heap.size w wr) (fun i _ => n - (intOf i).toNat)
    case atStart => exact ⟨0, by omega, rfl, rfl, Below.refl _ _⟩
    case round =>
      obtain ⟨k, hk, rfl, hx, hbr⟩ := hrel
      have HX := hide hx
      clear hx
      by_cases hlt : k < n
      · obtain ⟨ad, p, rfl, hbk, hp, hc0, hc1⟩ := (h.below hbr).scell hlt
        have hpm := HF.out p (List.mem_of_getElem? hp)
        have HP := hide hp
        have HK := hide (show ∀ w, Calls Tryd.prog 29 #[.string p.1] w fun e w' => e = .returned (.bool (keyOk (bl p.1))) ∧ Below w.heap.size w w' from fun w => rkey_any (l := bl p.1) (by simpa [bl] using hpm.1) w)
        obtain ⟨g, hg⟩ : ∃ g, wr.heap.size = g := ⟨_, rfl⟩
        have hb2 : Below w.heap.size w (wr.alloc (Obj.cells #[.string p.1, .string p.2] 45)) := by repeat' (first | assumption | with_reducible exact Below.refl _ _ | with_reducible apply Below.drew | with_reducible apply below_drewN | with_reducible apply below_alloc | with_reducible refine below_set ?_ ?_ _ | (simp only [World.size_alloc, World.heap_drewN]; omega) | (simp; omega))
        have hgl : g < (wr.alloc (Obj.cells #[.string p.1, .string p.2] 45)).heap.size := by rw [← hg]; simp
        have hc0p : (wr.alloc (Obj.cells #[.string p.1, .string p.2] 45)).cell? ⟨g, 0, none⟩ = some (.string p.1) := by rw [← hg]; rw [World.cell?_alloc_at _ _ _ _ rfl]; rfl
        have hc1p : (wr.alloc (Obj.cells #[.string p.1, .string p.2] 45)).cell? ⟨g, 1, none⟩ = some (.string p.2) := by rw [← hg]; rw [World.cell?_alloc_at _ _ _ _ rfl]; rfl
        clear hp
        cases hkk : keyOk (bl p.1)
        · have HE := hide (show prErr n ps = 3 from prErr_at g1 hlt HX.out (prStep_form HP.out (by rw [hkk]; simp)) (by decide))
          rw [hkk] at HK
          clear hkk
          go_wp2_with fail
          refine (HK.out _).mono ?_
          rintro e w2 ⟨rfl, bel⟩
          go_wp2_with fail
          rw [HE.out]
          go_ret
          exact ⟨rfl, below_on hb2 bel⟩
        · rw [hkk] at HK
          have HKK := hide hkk
          clear hkk
          by_cases h0 : bl p.2 = []
          · have HE := hide (show prErr n ps = 3 from prErr_at g1 hlt HX.out (prStep_form HP.out (by rw [valOk_nil h0]; simp)) (by decide))
            have e0 : p.2.toList.isEmpty = true := by rw [ByteArray.toList_eq]; simpa [bl] using h0
            clear h0
            go_wp2_with fail
            refine (HK.out _).mono ?_
            rintro e w2 ⟨rfl, bel⟩
            have hc1q : w2.cell? ⟨g, 1, none⟩ = some (.string p.2) := (bel.cell (p := ⟨g, 1, none⟩) hgl).trans hc1p
            go_wp2_with fail
            rw [HE.out]
            go_ret
            exact ⟨rfl, below_on hb2 bel⟩
          · have e0 : p.2.toList.isEmpty = false := by rw [ByteArray.toList_eq]; simpa [bl] using h0
            have HN0 := hide h0
            clear h0
            go_wp2_with fail
            refine (HK.out _).mono ?_
            rintro e w2 ⟨rfl, bel⟩
            have hc1q : w2.cell? ⟨g, 1, none⟩ = some (.string p.2) := (bel.cell (p := ⟨g, 1, none⟩) hgl).trans hc1p
            have hc0q : w2.cell? ⟨g, 0, none⟩ = some (.string p.1) := (bel.cell (p := ⟨g, 0, none⟩) hgl).trans hc0p
            have hb3 := below_on hb2 bel
            have hg2 : g < w2.heap.size := Nat.lt_of_lt_of_le hgl bel.size
            go_wp2_with fail
            have hrow : ∀ cap, RowOf (w2.drew.alloc (.cells (bytesRow p.2 cap) 5 ((bytesRow p.2 cap).size, (bytesRow p.2 cap).size + 1))) w2.heap.size (bl p.2) := row_made w2 (bl p.2)
            rw [run_bytes_of_string _ _ _ 5 p.2 (by kernel_rfl) (by kernel_rfl) (by kernel_rfl)]
            have hb4 : Below w2.heap.size w2 (w2.drew.alloc (.cells (bytesRow p.2 (grownCap w2 p.2.size 0 5)) 5 ((bytesRow p.2 (grownCap w2 p.2.size 0 5)).size, (bytesRow p.2 (grownCap w2 p.2.size 0 5)).size + 1))) := by
              exact Below.alloc (Below.drew (Below.refl _ _)) (Nat.le_refl _) _
            have hcell := hrow (grownCap w2 p.2.size 0 5)
            generalize grownCap w2 p.2.size 0 5 = cap at hb4 hcell ⊢
            generalize w2.drew.alloc (.cells (bytesRow p.2 cap) 5 ((bytesRow p.2 cap).size, (bytesRow p.2 cap).size + 1)) = w3 at hb4 hcell ⊢
            have HCL := hide hcell
            clear hcell hrow
            have hc0r : w3.cell? ⟨g, 0, none⟩ = some (.string p.1) := (hb4.cell (p := ⟨g, 0, none⟩) hg2).trans hc0q
            have hg3 : g < w3.heap.size := Nat.lt_of_lt_of_le hg2 hb4.size
            have hb5 := below_on hb3 hb4
            have h3 := h.below hb5
            have hsz : p.2.size = (bl p.2).length := by show p.2.data.size = p.2.data.toList.length; rw [Array.length_toList]
            have hmx : (bl p.2).length ≤ 140737488351232 := by rw [← hsz]; exact hpm.2
            rw [hsz]
            clear hc0 hc1 hc0p hc1p hc1q hc0q hb2 hbr hb4 bel
            obtain ⟨L, hLd⟩ : ∃ L, bl p.2 = L := ⟨_, rfl⟩
            rw [hLd] at HCL hsz hmx ⊢
            have HLD := hide hLd
            clear hLd
            go_wp2_with fail
            go_loop [32] (fun i => ∃ j : Nat, j ≤ L.length ∧ i = .int .i64 j ∧ vcTo L j = true) (fun i => L.length - (intOf i).toNat)
            case atStart => exact ⟨0, Nat.zero_le _, rfl, rfl⟩
            case round =>
              obtain ⟨j, hj, rfl, hy⟩ := hrel
              have HY := hide hy
              clear hy
              by_cases hjl : j < L.length
              · have hc := HCL.out j hjl
                obtain ⟨c, hcc⟩ : ∃ c, L.getD j 0 = c := ⟨_, rfl⟩
                have HC := hide hcc
                rw [hcc] at hc
                clear hcc
                have c8 := c.toNat_lt
                by_cases hv : isVc c = true
                · have hv' := of_decide_eq_true hv
                  have HV := hide hv
                  clear hv
                  obtain ⟨v1, v2, v3⟩ := hv'
                  go_wp2_with fail
                  refine (vix_any c _).mono ?_
                  rintro e w' ⟨K, rfl, k1, rfl⟩
                  have k2 : K < 0 := by
                    rcases Int.lt_or_le K 0 with h | h
                    · exact h
                    · have := k1.1 h
                      omega
                  clear k1
                  go_wp2_with fail
                  exact ⟨⟨j + 1, by omega, by go_num, okTo_next HY.out (by show isVc (L.getD j 0) = true; rw [HC.out]; exact HV.out)⟩, by simp [intOf]; omega⟩
                · have HE := hide (show prErr n ps = 3 from prErr_at g1 hlt HX.out (prStep_form HP.out (by rw [HLD.out, valOk_no hjl (by rw [HC.out]; simpa using hv)]; simp)) (by decide))
                  have hv' : c.toNat < 33 ∨ 126 < c.toNat ∨ (33 ≤ c.toNat ∧ c.toNat ≤ 126 ∧ (c.toNat = 44 ∨ c.toNat = 61 ∨ c.toNat = 59)) := by
                    have : ¬ (33 ≤ c.toNat ∧ c.toNat ≤ 126 ∧ c.toNat ≠ 44 ∧ c.toNat ≠ 61 ∧ c.toNat ≠ 59) := fun h => hv (decide_eq_true h)
                    omega
                  clear hv HC
                  rcases hv' with h | h | ⟨h, h', h''⟩
                  · go_wp2_with fail
                    rw [HE.out]
                    go_ret
                    exact ⟨rfl, hb5⟩
                  · go_wp2_with fail
                    rw [HE.out]
                    go_ret
                    exact ⟨rfl, hb5⟩
                  · have HH := hide h''
                    clear h''
                    go_wp2_with fail
                    refine (vix_any c _).mono ?_
                    rintro e w' ⟨K, rfl, k1, rfl⟩
                    have k2 : 0 ≤ K := k1.2 HH.out
                    clear k1
                    go_wp2_with fail
                    rw [HE.out]
                    go_ret
                    exact ⟨rfl, hb5⟩
              · obtain rfl : j = L.length := by omega
                have HVV := hide (show valOk (bl p.2) = true by rw [HLD.out]; exact valOk_yes (by rw [← HLD.out]; exact HN0.out) HY.out)
                have hkc : k ≤ c := by have := h.cap; omega
                have hkn : ¬ n < k := by omega
                go_wp2_with fail
                go_loopw [52] (fun i wr => ∃ j : Nat, j ≤ k ∧ i = .int .i64 j ∧ Below w3.heap.size w3 wr ∧ hasTo ps p.1 j = true) (fun i _ => k - (intOf i).toNat)
                case atStart => exact ⟨0, Nat.zero_le _, rfl, Below.refl _ _, rfl⟩
                case round =>
                  obtain ⟨j, hj, rfl, hbq, hno⟩ := hrel
                  have HNO := hide hno
                  clear hno
                  have hc0s : wr.cell? ⟨g, 0, none⟩ = some (.string p.1) := (hbq.cell (p := ⟨g, 0, none⟩) hg3).trans hc0r
                  have hb6 := below_on hb5 hbq
                  by_cases hjk : j < k
                  · obtain ⟨ad2, q, e2, hbk2, hq, hq0, hq1⟩ := (h.below hb6).scell (j := j) (by omega)
                    injection e2 with e2
                    subst e2
                    have HQ := hide hq
                    have hgq : g < wr.heap.size := Nat.lt_of_lt_of_le hg3 hbq.size
                    have hb7 : Below w3.heap.size w3 (wr.alloc (Obj.cells #[.string q.1, .string q.2] 45)) := below_alloc hbq _
                    clear hq
                    by_cases e : q.1 = p.1
                    · have t1 := same_texts e
                      have HD := hide (show dupAt ps k = true from hasTo_dup (by rw [HL.out]; omega) HP.out true (okTo_bad (p := fun i => !decide ((ps.getD i (ByteArray.empty, ByteArray.empty)).1 = p.1)) (k := j) (by rw [getD_of HQ.out]; simpa using e) k hjk))
                      have HE := hide (show prErr n ps = 5 from prErr_at g1 hlt HX.out (prStep_there HP.out HKK.out HVV.out HD.out) (by decide))
                      clear e
                      go_wp2_with fail
                      rw [HE.out]
                      go_ret
                      exact ⟨rfl, below_on hb5 hb7⟩
                    · have t1 := other_texts e
                      have HN2 := hide (show hasTo ps p.1 (j + 1) = true from okTo_next HNO.out (by rw [getD_of HQ.out]; simpa using e))
                      clear e
                      go_wp2_with fail
                      exact ⟨⟨j + 1, by omega, by go_num, hb7, HN2.out⟩, by simp [intOf]; omega⟩
                  · obtain rfl : j = k := by omega
                    have HD := hide (show dupAt ps j = false from hasTo_dup (by rw [HL.out]; omega) HP.out false HNO.out)
                    have HN3 := hide (faultTo_next HX.out (prStep_ok HP.out HKK.out HVV.out HD.out))
                    go_wp2_with fail
                    exact ⟨⟨j + 1, by omega, by go_num, HN3.out, hb6⟩, by simp [intOf]; omega⟩
      · obtain rfl : k = n := by omega
        go_wp2_with fail
        rw [prErr_none g1 HX.out]
        go_ret
        exact ⟨rfl, hbr⟩
end
end Go.Proofs.YtkliebhpdcjdgaaDoor
