/-
  state.Key, value; culref.Key: the walks. Conditions: a text's length.
-/
import Derived.Test.YtkliebhpdcjdgaaDoorStateP
import Derived.Test.YtkliebhpdcjdgaaDoorHexa3
namespace Go.Proofs.YtkliebhpdcjdgaaDoor
open Go.RowKit Go.Shelf

theorem tx_at {l : List UInt8} {k : Nat} (h : k < (tx l).size) : (tx l)[k] = l.getD k 0 := by
  have h' : k < l.length := by rwa [tx_size] at h
  show (l.toArray)[k]'(by simpa using h') = _
  simp [List.getD, h']
theorem isKc_lo {c : UInt8} (h1 : 97 ≤ c.toNat) (h2 : c.toNat ≤ 122) : isKc c = true := decide_eq_true (.inl ⟨h1, h2⟩)
theorem isKc_hi {c : UInt8} (h1 : 48 ≤ c.toNat) (h2 : c.toNat ≤ 57) : isKc c = true := decide_eq_true (.inr ⟨h1, h2⟩)
theorem keyOk_no {l : List UInt8} {k : Nat} (hk : k < l.length) (h : isKc (l.getD k 0) = false) : keyOk l = false := by
  unfold keyOk kcTo
  rw [okTo_bad (p := fun i => isKc (l.getD i 0)) (k := k) h _ hk, Bool.and_false]
theorem keyOk_size {l : List UInt8} (h : ¬ (1 ≤ l.length ∧ l.length ≤ 16)) : keyOk l = false := by unfold keyOk; rw [decide_eq_false h, Bool.false_and]
theorem keyOk_yes {l : List UInt8} (h : 1 ≤ l.length ∧ l.length ≤ 16) (hk : kcTo l l.length = true) : keyOk l = true := by unfold keyOk; rw [decide_eq_true h, hk]; rfl
set_option maxRecDepth 20000 in
set_option maxHeartbeats 1600000 in
theorem skey_any {l : List UInt8} (hl : l.length ≤ 140737488351232) (w : World) :
    Calls Tryd.prog 28 #[.string (tx l)] w fun e w' => e = .returned (.bool (keyOk l)) ∧ w = w' := by
  have hs := tx_size l
  have HG := hide (fun k (h : k < (tx l).size) => tx_at (l := l) h)
  by_cases h0 : l = []
  · have hr := hide (keyOk_size (l := l) (by rw [h0]; simp))
    have e0 : (tx l).toList.isEmpty = true := by rw [h0]; exact empty_yes
    clear h0
    generalize tx l = S at hs e0 ⊢
    go_enter Tryd.func28, Tryd.ntmps28
    go_wp2_with fail
    rw [hr.out]
    go_ret
    exact ⟨rfl, rfl⟩
  · have e0 := empty_no h0
    have p0 := List.length_pos_iff.2 h0
    clear h0
    obtain ⟨S, hS⟩ : ∃ S, tx l = S := ⟨_, rfl⟩
    rw [hS] at hs HG e0 ⊢
    clear hS
    by_cases h16 : l.length ≤ 16
    · go_enter Tryd.func28, Tryd.ntmps28
      go_wp2_with fail
      go_loop [14] (fun i => ∃ k : Nat, k ≤ l.length ∧ i = .int .i64 k ∧ kcTo l k = true) (fun i => l.length - (intOf i).toNat)
      case atStart => exact ⟨0, by omega, rfl, rfl⟩
      case round =>
        obtain ⟨k, hk, rfl, hx⟩ := hrel
        have HX := hide hx
        clear hx
        by_cases hlt : k < l.length
        · obtain ⟨c, hc⟩ : ∃ c, l.getD k 0 = c := ⟨_, rfl⟩
          have hb : ∀ h : k < S.size, S[k]'h = c := fun h => by rw [HG.out k h, hc]
          have HC := hide hc
          have c8 := c.toNat_lt
          clear hc
          by_cases a1 : 97 ≤ c.toNat
          · by_cases a2 : c.toNat ≤ 122
            · have d97 : decide ((97 : Int) ≤ (c.toNat : Int)) = true := decide_eq_true (by omega)
              have d122 : decide ((c.toNat : Int) ≤ 122) = true := decide_eq_true (by omega)
              go_wp2_with fail
              exact ⟨⟨k + 1, by omega, by go_num, okTo_next HX.out (by show isKc (l.getD k 0) = true; rw [HC.out]; exact isKc_lo a1 a2)⟩, by simp [intOf]; omega⟩
            · have d97 : decide ((97 : Int) ≤ (c.toNat : Int)) = true := decide_eq_true (by omega)
              have d122 : decide ((c.toNat : Int) ≤ 122) = false := decide_eq_false (by omega)
              have d57 : decide ((c.toNat : Int) ≤ 57) = false := decide_eq_false (by omega)
              go_wp2_with fail
              rw [keyOk_no hlt (by rw [HC.out]; exact decide_eq_false (by omega))]
              go_ret
              exact ⟨rfl, rfl⟩
          · by_cases b1 : 48 ≤ c.toNat
            · by_cases b2 : c.toNat ≤ 57
              · have d97 : decide ((97 : Int) ≤ (c.toNat : Int)) = false := decide_eq_false (by omega)
                have d48 : decide ((48 : Int) ≤ (c.toNat : Int)) = true := decide_eq_true (by omega)
                have d57 : decide ((c.toNat : Int) ≤ 57) = true := decide_eq_true (by omega)
                go_wp2_with fail
                exact ⟨⟨k + 1, by omega, by go_num, okTo_next HX.out (by show isKc (l.getD k 0) = true; rw [HC.out]; exact isKc_hi b1 b2)⟩, by simp [intOf]; omega⟩
              · have d97 : decide ((97 : Int) ≤ (c.toNat : Int)) = false := decide_eq_false (by omega)
                have d48 : decide ((48 : Int) ≤ (c.toNat : Int)) = true := decide_eq_true (by omega)
                have d57 : decide ((c.toNat : Int) ≤ 57) = false := decide_eq_false (by omega)
                go_wp2_with fail
                rw [keyOk_no hlt (by rw [HC.out]; exact decide_eq_false (by omega))]
                go_ret
                exact ⟨rfl, rfl⟩
            · have d97 : decide ((97 : Int) ≤ (c.toNat : Int)) = false := decide_eq_false (by omega)
              have d48 : decide ((48 : Int) ≤ (c.toNat : Int)) = false := decide_eq_false (by omega)
              go_wp2_with fail
              rw [keyOk_no hlt (by rw [HC.out]; exact decide_eq_false (by omega))]
              go_ret
              exact ⟨rfl, rfl⟩
        · obtain rfl : k = l.length := by omega
          go_wp2_with fail
          rw [keyOk_yes ⟨p0, h16⟩ HX.out]
          go_ret
          exact ⟨rfl, rfl⟩
    · have hr := hide (keyOk_size (l := l) (by omega))
      go_enter Tryd.func28, Tryd.ntmps28
      go_wp2_with fail
      rw [hr.out]
      go_ret
      exact ⟨rfl, rfl⟩

theorem valOk_no {l : List UInt8} {k : Nat} (hk : k < l.length) (h : isVc (l.getD k 0) = false) : valOk l = false := by
  unfold valOk vcTo
  rw [okTo_bad (p := fun i => isVc (l.getD i 0)) (k := k) h _ hk, Bool.and_false]
theorem val_end {l : List UInt8} (hk : vcTo l l.length = true) : (!(tx l).toList.isEmpty) = valOk l := by
  unfold valOk
  rw [hk, Bool.and_true, ByteArray.toList_eq]
  cases l <;> simp [tx]
set_option maxRecDepth 20000 in
set_option maxHeartbeats 1600000 in
theorem sval_any {l : List UInt8} (hl : l.length ≤ 140737488351232) (w : World) :
    Calls Tryd.prog 51 #[.string (tx l)] w fun e w' => e = .returned (.bool (valOk l)) ∧ w = w' := by
  have hs := tx_size l
  have HG := hide (fun k (h : k < (tx l).size) => tx_at (l := l) h)
  have HE := hide (val_end (l := l))
  obtain ⟨S, hS⟩ : ∃ S, tx l = S := ⟨_, rfl⟩
  rw [hS] at hs HG HE ⊢
  clear hS
  go_enter Tryd.func51, Tryd.ntmps51
  go_wp2_with fail
  go_loop [7] (fun i => ∃ k : Nat, k ≤ l.length ∧ i = .int .i64 k ∧ vcTo l k = true) (fun i => l.length - (intOf i).toNat)
  case atStart => exact ⟨0, by omega, rfl, rfl⟩
  case round =>
    obtain ⟨k, hk, rfl, hx⟩ := hrel
    have HX := hide hx
    clear hx
    by_cases hlt : k < l.length
    · obtain ⟨c, hc⟩ : ∃ c, l.getD k 0 = c := ⟨_, rfl⟩
      have hb : ∀ h : k < S.size, S[k]'h = c := fun h => by rw [HG.out k h, hc]
      have HC := hide hc
      have c8 := c.toNat_lt
      clear hc
      by_cases hv : isVc c = true
      · have hv' := of_decide_eq_true hv
        have t1 : ((c.toNat : Int) == 44) = false := by simp; omega
        have t2 : ((c.toNat : Int) == 61) = false := by simp; omega
        have t3 : ((c.toNat : Int) == 59) = false := by simp; omega
        obtain ⟨v1, v2, -⟩ := hv'
        have HV := hide hv
        clear hv
        go_wp2_with fail
        exact ⟨⟨k + 1, by omega, by go_num, okTo_next HX.out (by show isVc (l.getD k 0) = true; rw [HC.out]; exact HV.out)⟩, by simp [intOf]; omega⟩
      · have HR := hide (valOk_no hlt (by rw [HC.out]; simpa using hv))
        have hv' : c.toNat < 33 ∨ 126 < c.toNat ∨ c.toNat = 44 ∨ c.toNat = 61 ∨ c.toNat = 59 := by
          have : ¬ (33 ≤ c.toNat ∧ c.toNat ≤ 126 ∧ c.toNat ≠ 44 ∧ c.toNat ≠ 61 ∧ c.toNat ≠ 59) := fun h => hv (decide_eq_true h)
          omega
        clear hv HC
        rcases hv' with h | h | h | h | h
        · go_wp2_with fail
          rw [HR.out]
          go_ret
          exact ⟨rfl, rfl⟩
        · go_wp2_with fail
          rw [HR.out]
          go_ret
          exact ⟨rfl, rfl⟩
        all_goals
          go_wp2_with fail
          rw [HR.out]
          go_ret
          exact ⟨rfl, rfl⟩
    · obtain rfl : k = l.length := by omega
      go_wp2_with fail
      rw [← HE.out HX.out]
      go_ret
      exact ⟨rfl, rfl⟩
end Go.Proofs.YtkliebhpdcjdgaaDoor
