/- Proves the parts of the claim that its last text joins: MarkP, Hexa2, Mark. Conditions: those that each theorem names. -/
import Derived.Test.YtjpbjghdplbdcaaGreatDoorM15
import Derived.Test.YtjpbjghdplbdcaaGreatDoorM01
import Derived.Test.YtjpbjghdplbdcaaGreatDoorM02
section
namespace Go.Proofs.YtjpbjghdplbdcaaGreatDoor
abbrev Mk := Int × Int × Bool × Bool
def noMk : Mk := (0, 0, false, false)
def thName : ByteArray := ⟨#[116, 104]⟩
def rvName : ByteArray := ⟨#[114, 118]⟩
theorem names_differ : ¬ thName = rvName := fun h => by
  have := congrArg (fun s => s.data.toList) h
  simp [thName, rvName] at this
abbrev noPr : Pr := (ByteArray.empty, ByteArray.empty)
def mkStep (m : Mk) (p : Pr) : Mk := if p.1 = thName then (thR (bl p.2), m.2.1, true, m.2.2.2) else if p.1 = rvName then (m.1, rvR (bl p.2), m.2.2.1, true) else m
def pOk (p : Pr) : Bool := if p.1 = thName then thOk (bl p.2) else if p.1 = rvName then rvOk (bl p.2) else true
def mkTo (ps : List Pr) : Nat → Mk
  | 0 => noMk
  | k + 1 => mkStep (mkTo ps k) (ps.getD k noPr)
def pAll (ps : List Pr) (k : Nat) : Bool := okTo (fun i => pOk (ps.getD i noPr)) k
def mkRes (n : Nat) (ps : List Pr) : Mk := bif pAll ps n then mkTo ps n else noMk
def mkErr (n : Nat) (ps : List Pr) : Int := bif pAll ps n then 0 else 3
theorem mk_bad {n k : Nat} {ps : List Pr} {p : Pr} (hp : ps[k]? = some p) (hk : k < n) (h : pOk p = false) : mkRes n ps = noMk ∧ mkErr n ps = 3 := by
  have : pAll ps n = false := okTo_bad (p := fun i => pOk (ps.getD i noPr)) (k := k) (by rw [getD_of hp]; exact h) n hk
  unfold mkRes mkErr
  rw [this]
  exact ⟨rfl, rfl⟩
theorem mk_all {n : Nat} {ps : List Pr} (h : pAll ps n = true) : mkRes n ps = mkTo ps n ∧ mkErr n ps = 0 := by
  unfold mkRes mkErr
  rw [h]
  exact ⟨rfl, rfl⟩
theorem mkTo_next {ps : List Pr} {k : Nat} {p : Pr} (hp : ps[k]? = some p) : mkTo ps (k + 1) = mkStep (mkTo ps k) p := by rw [mkTo, getD_of hp]
theorem pAll_next {ps : List Pr} {k : Nat} {p : Pr} (hp : ps[k]? = some p) (h : pAll ps k = true) (h2 : pOk p = true) : pAll ps (k + 1) = true := okTo_next h (by rw [getD_of hp]; exact h2)
theorem pOk_th {p : Pr} (h : p.1 = thName) : pOk p = thOk (bl p.2) := if_pos h
theorem pOk_rv {p : Pr} (h : p.1 = rvName) : pOk p = rvOk (bl p.2) := by unfold pOk; rw [if_neg (fun e => names_differ (e.symm.trans h)), if_pos h]
theorem pOk_other {p : Pr} (h : ¬ p.1 = thName) (h2 : ¬ p.1 = rvName) : pOk p = true := by unfold pOk; rw [if_neg h, if_neg h2]
theorem step_th {m : Mk} {p : Pr} (h : p.1 = thName) : mkStep m p = (thR (bl p.2), m.2.1, true, m.2.2.2) := if_pos h
theorem step_rv {m : Mk} {p : Pr} (h : p.1 = rvName) : mkStep m p = (m.1, rvR (bl p.2), m.2.2.1, true) := by unfold mkStep; rw [if_neg (fun e => names_differ (e.symm.trans h)), if_pos h]
theorem step_other {m : Mk} {p : Pr} (h : ¬ p.1 = thName) (h2 : ¬ p.1 = rvName) : mkStep m p = m := by unfold mkStep; rw [if_neg h, if_neg h2]
theorem thR_ge {l : List UInt8} (h : thOk l = true) : 0 ≤ thR l := by unfold thR; rw [h]; simp
theorem rvR_ge {l : List UInt8} (h : rvOk l = true) : 0 ≤ rvR l := by unfold rvR; rw [h]; simp
theorem mkStep_ge {m : Mk} {p : Pr} (h1 : 0 ≤ m.1) (h2 : 0 ≤ m.2.1) (hp : pOk p = true) : 0 ≤ (mkStep m p).1 ∧ 0 ≤ (mkStep m p).2.1 := by
  by_cases e : p.1 = thName
  · rw [step_th e]
    rw [pOk_th e] at hp
    exact ⟨thR_ge hp, h2⟩
  · by_cases e2 : p.1 = rvName
    · rw [step_rv e2]
      rw [pOk_rv e2] at hp
      exact ⟨h1, rvR_ge hp⟩
    · rw [step_other e e2]
      exact ⟨h1, h2⟩
theorem mkTo_ge {ps : List Pr} : ∀ k, pAll ps k = true → 0 ≤ (mkTo ps k).1 ∧ 0 ≤ (mkTo ps k).2.1
  | 0, _ => ⟨Int.le_refl _, Int.le_refl _⟩
  | k + 1, h => by
    have h1 : pAll ps k = true := okTo_of k fun i hi => okTo_at (k + 1) h (by omega)
    have h2 := okTo_at (k + 1) h (Nat.lt_succ_self k)
    obtain ⟨a, b⟩ := mkTo_ge k h1
    exact mkStep_ge a b h2
def isMark (p : Pr) : Bool := decide (p.1 = thName) || decide (p.1 = rvName)
def rest (ps : List Pr) : List Pr := ps.filter fun p => !isMark p
def heads (m : Mk) : List Pr := (bif m.2.2.1 then [(thName, (⟨(thS (digs 14 m.1.toNat)).toArray⟩ : ByteArray))] else []) ++ (bif m.2.2.2 then [(rvName, (⟨(digs 14 m.2.1.toNat).toArray⟩ : ByteArray))] else [])
def setAll (ps : List Pr) (m : Mk) : List Pr := heads m ++ rest ps
theorem rest_len (ps : List Pr) : (rest ps).length ≤ ps.length := List.length_filter_le _ _
theorem rest_snoc {ps : List Pr} {k : Nat} {p : Pr} (hp : ps[k]? = some p) : rest (ps.take (k + 1)) = rest (ps.take k) ++ (if isMark p then [] else [p]) := by
  unfold rest
  rw [List.take_add_one, hp, List.filter_append]
  simp only [Option.toList_some, List.filter_cons, List.filter_nil]
  cases isMark p <;> simp
end Go.Proofs.YtjpbjghdplbdcaaGreatDoor
end
section
namespace Go.Proofs.YtjpbjghdplbdcaaGreatDoor
open Go.RowKit
theorem pv_small {l : List UInt8} {k : Nat} (h : hexTo l k = true) (hk : k < 14) : pv l k < 4503599627370496 :=
  Nat.lt_of_lt_of_le (pv_lt k h) (Nat.le_trans (Nat.pow_le_pow_right (by decide) (show k ≤ 13 by omega)) (by decide))
theorem hexTo_next {l : List UInt8} {k : Nat} (h : hexTo l k = true) (hk : isHex (l.getD k 48) = true) : hexTo l (k + 1) = true := okTo_next h hk
theorem isHex_lo {c : UInt8} (h1 : 48 ≤ c.toNat) (h2 : c.toNat ≤ 57) : isHex c = true := decide_eq_true (.inl ⟨h1, h2⟩)
theorem isHex_hi {c : UInt8} (h1 : 97 ≤ c.toNat) (h2 : c.toNat ≤ 102) : isHex c = true := decide_eq_true (.inr ⟨h1, h2⟩)
theorem getD_out {l : List UInt8} {k : Nat} (h : l.length ≤ k) : l.getD k 48 = 48 := by simp [List.getD, List.getElem?_eq_none h]
def parsed (l : List UInt8) (b : Bool) : Int := bif b then (pv l 14 : Int) else 0
set_option maxRecDepth 20000 in
set_option maxHeartbeats 1600000 in
theorem parse_any {l : List UInt8} {b : Bool} (hb : hexTo l 14 = b) (hl : l.length ≤ 140737488351232) (w : World) :
    Calls Tryz.prog 234 #[.string (tx l)] w fun e w' => e = .returned (.tuple #[.int .i64 (parsed l b), .bool b]) ∧ w = w' := by
  have HB := hide hb
  clear hb
  obtain ⟨S, hS⟩ : ∃ S, tx l = S := ⟨_, rfl⟩
  have hs : S.size = l.length := by rw [← hS, tx_size]
  have hget : ∀ k (h : k < S.size), S[k]'h = l.getD k 48 := by subst hS; intro k h; exact tx_get h
  have HG := hide hget
  rw [hS]
  clear hS hget
  go_enter Tryz.func234, Tryz.ntmps234
  go_wp2_with fail
  go_loop [4, 7] (fun v i => ∃ k : Nat, k ≤ 14 ∧ i = .int .i64 k ∧ v = .int .i64 (pv l k) ∧ hexTo l k = true) (fun _ i => 14 - (intOf i).toNat)
  case atStart => exact ⟨0, by omega, rfl, rfl, rfl⟩
  case round =>
    obtain ⟨k, hk, rfl, rfl, hx⟩ := hrel
    have HX := hide hx
    by_cases hlt : k < 14
    · have hp := pv_small hx hlt
      obtain ⟨P, hP⟩ : ∃ P, pv l k = P := ⟨_, rfl⟩
      have HP := hide hP
      rw [hP] at hp ⊢
      clear hx hP
      by_cases hin : k < l.length
      · obtain ⟨c, hc⟩ : ∃ c, l.getD k 48 = c := ⟨_, rfl⟩
        have hb : ∀ h : k < S.size, S[k]'h = c := fun h => by rw [HG.out k h, hc]
        have HC := hide hc
        have c8 := c.toNat_lt
        clear hc
        by_cases a1 : 48 ≤ c.toNat
        · by_cases a2 : c.toNat ≤ 57
          · go_wp2_with fail
            have hv : (P : Int) * 16 + ((c.toNat : Int) - 48) = (pv l (k + 1) : Int) := by
              rw [pv, HP.out, HC.out]
              unfold hexv
              rw [if_pos a2]
              omega
            rw [hv]
            exact ⟨⟨k + 1, by omega, by go_num, rfl, hexTo_next HX.out (by rw [HC.out]; exact isHex_lo a1 a2)⟩, by simp [intOf]; omega⟩
          · by_cases a3 : 97 ≤ c.toNat
            · by_cases a4 : c.toNat ≤ 102
              · go_wp2_with fail
                have hv : (P : Int) * 16 + ((c.toNat : Int) - 97 + 10) = (pv l (k + 1) : Int) := by
                  rw [pv, HP.out, HC.out]
                  unfold hexv
                  rw [if_neg a2]
                  omega
                rw [hv]
                exact ⟨⟨k + 1, by omega, by go_num, rfl, hexTo_next HX.out (by rw [HC.out]; exact isHex_hi a3 a4)⟩, by simp [intOf]; omega⟩
              · go_wp2_with fail
                obtain rfl : b = false := by
                  rw [← HB.out]
                  refine okTo_bad (k := k) ?_ 14 hlt
                  show isHex (l.getD k 48) = false
                  rw [HC.out]
                  exact decide_eq_false (by omega)
                go_ret2
                exact ⟨rfl, rfl⟩
            · go_wp2_with fail
              obtain rfl : b = false := by
                rw [← HB.out]
                refine okTo_bad (k := k) ?_ 14 hlt
                show isHex (l.getD k 48) = false
                rw [HC.out]
                exact decide_eq_false (by omega)
              go_ret2
              exact ⟨rfl, rfl⟩
        · go_wp2_with fail
          obtain rfl : b = false := by
            rw [← HB.out]
            refine okTo_bad (k := k) ?_ 14 hlt
            show isHex (l.getD k 48) = false
            rw [HC.out]
            exact decide_eq_false (by omega)
          go_ret2
          exact ⟨rfl, rfl⟩
      · go_wp2_with fail
        have hv : (P : Int) * 16 = (pv l (k + 1) : Int) := by
          rw [pv, HP.out, getD_out (by omega), hexv_48]
          omega
        rw [hv]
        exact ⟨⟨k + 1, by omega, by go_num, rfl, hexTo_next HX.out (by rw [getD_out (by omega)]; exact isHex_48)⟩, by simp [intOf]; omega⟩
    · obtain rfl : k = 14 := by omega
      obtain rfl : b = true := by rw [← HB.out]; exact hx
      go_wp2_with fail
      go_ret2
      exact ⟨rfl, rfl⟩

theorem thV_no {l : List UInt8} (h : thOk l = false) : thV l = 0 ∧ thE l = 3 ∧ thR l = -1 := by unfold thV thE thR; rw [h]; exact ⟨rfl, rfl, rfl⟩
theorem thV_yes {l : List UInt8} (h : thOk l = true) : thV l = pv l 14 ∧ thE l = 0 ∧ thR l = pv l 14 := by unfold thV thE thR; rw [h]; exact ⟨rfl, rfl, rfl⟩
theorem rvV_no {l : List UInt8} (h : rvOk l = false) : rvV l = 0 ∧ rvE l = 3 ∧ rvR l = -1 := by unfold rvV rvE rvR; rw [h]; exact ⟨rfl, rfl, rfl⟩
theorem rvV_yes {l : List UInt8} (h : rvOk l = true) : rvV l = pv l 14 ∧ rvE l = 0 ∧ rvR l = pv l 14 := by unfold rvV rvE rvR; rw [h]; exact ⟨rfl, rfl, rfl⟩
theorem tx_ne {l : List UInt8} (h : 0 < l.length) : ¬ tx l = ⟨#[]⟩ := by
  intro e
  have := congrArg ByteArray.size e
  rw [tx_size] at this
  simp [ByteArray.size] at this
  subst this
  simp at h
theorem parse_ok {l : List UInt8} (hb : hexTo l 14 = true) (hl : l.length ≤ 140737488351232) (w : World) :
    Calls Tryz.prog 234 #[.string (tx l)] w fun e w' => e = .returned (.tuple #[.int .i64 (pv l 14 : Nat), .bool true]) ∧ w = w' := parse_any hb hl w
theorem parse_bad {l : List UInt8} (hb : hexTo l 14 = false) (hl : l.length ≤ 140737488351232) (w : World) :
    Calls Tryz.prog 234 #[.string (tx l)] w fun e w' => e = .returned (.tuple #[.int .i64 0, .bool false]) ∧ w = w' := parse_any hb hl w

set_option maxRecDepth 20000 in
set_option maxHeartbeats 1600000 in
theorem prv_any {l : List UInt8} (hl : l.length ≤ 140737488351232) (w : World) :
    Calls Tryz.prog 176 #[.string (tx l)] w fun e w' => e = .returned (.tuple #[.int .i64 (rvV l), .int .i64 (rvE l)]) ∧ w = w' := by
  have hs := tx_size l
  cases hx : hexTo l 14
  · have HC := hide (parse_bad hx hl)
    obtain ⟨e1, e2, -⟩ := rvV_no (l := l) (by unfold rvOk; rw [hx]; rfl)
    rw [e1, e2]
    clear hx e1 e2
    generalize tx l = S at hs HC ⊢
    go_enter Tryz.func176, Tryz.ntmps176
    go_wp2_with fail
    refine (HC.out _).mono ?_
    rintro e w' ⟨rfl, rfl⟩
    go_wp2_with fail
    go_ret2
    exact ⟨rfl, rfl⟩
  · have HC := hide (parse_ok hx hl)
    by_cases h14 : l.length = 14
    · obtain ⟨e1, e2, -⟩ := rvV_yes (l := l) (by unfold rvOk; rw [hx, decide_eq_true h14]; rfl)
      rw [e1, e2]
      rw [h14] at hs
      clear hx e1 e2
      generalize tx l = S at hs HC ⊢
      generalize pv l 14 = V at HC ⊢
      go_enter Tryz.func176, Tryz.ntmps176
      go_wp2_with fail
      refine (HC.out _).mono ?_
      rintro e w' ⟨rfl, rfl⟩
      go_wp2_with fail
      go_ret2
      exact ⟨rfl, rfl⟩
    · obtain ⟨e1, e2, -⟩ := rvV_no (l := l) (by unfold rvOk; rw [hx, decide_eq_false h14]; rfl)
      rw [e1, e2]
      have t1 : ((l.length : Int) != 14) = true := by simp; omega
      clear hx e1 e2
      generalize tx l = S at hs HC ⊢
      generalize pv l 14 = V at HC ⊢
      go_enter Tryz.func176, Tryz.ntmps176
      go_wp2_with fail
      refine (HC.out _).mono ?_
      rintro e w' ⟨rfl, rfl⟩
      go_wp2_with fail
      go_ret2
      exact ⟨rfl, rfl⟩

set_option maxRecDepth 20000 in
set_option maxHeartbeats 1600000 in
theorem pth_any {l : List UInt8} (hl : l.length ≤ 140737488351232) (w : World) :
    Calls Tryz.prog 175 #[.string (tx l)] w fun e w' => e = .returned (.tuple #[.int .i64 (thV l), .int .i64 (thE l)]) ∧ w = w' := by
  have hs := tx_size l
  cases hx : hexTo l 14
  · have HC := hide (parse_bad hx hl)
    obtain ⟨e1, e2, -⟩ := thV_no (l := l) (by unfold thOk; rw [hx]; rfl)
    rw [e1, e2]
    clear hx e1 e2
    generalize tx l = S at hs HC ⊢
    go_enter Tryz.func175, Tryz.ntmps175
    go_wp2_with fail
    refine (HC.out _).mono ?_
    rintro e w' ⟨rfl, rfl⟩
    go_wp2_with fail
    go_ret2
    exact ⟨rfl, rfl⟩
  · have HC := hide (parse_ok hx hl)
    by_cases h0 : 0 < l.length
    · have ne := tx_ne h0
      have ne2 : (tx l).toList.isEmpty = false := by rw [ByteArray.toList_eq]; simpa [tx] using List.length_pos_iff.1 h0
      by_cases h14 : l.length ≤ 14
      · obtain ⟨m, hm⟩ : ∃ m, l.length = m + 1 := ⟨l.length - 1, by omega⟩
        obtain ⟨c, hc⟩ : ∃ c, l[m]? = some c := ⟨_, List.getElem?_eq_getElem (by omega)⟩
        have hb : ∀ h : m < (tx l).size, (tx l)[m]'h = c := by intro h; rw [tx_get h]; simp [List.getD, hc]
        have hgd : l.getD (l.length - 1) 0 = c := by rw [hm]; simp [List.getD, hc]
        have hthOk : thOk l = !endsBad l := by unfold thOk; rw [hx, decide_eq_true ⟨h0, h14⟩]; rfl
        unfold endsBad at hthOk
        rw [hgd, hm] at hthOk
        rw [hm] at hs h14
        by_cases h1 : 0 < m
        · rw [decide_eq_true (show 1 < m + 1 by omega)] at hthOk
          by_cases e : c = 48
          · obtain ⟨e1, e2, -⟩ := thV_no (l := l) (by rw [hthOk, e]; rfl)
            rw [e1, e2]
            have ce : (c.toNat : Int) = 48 := by rw [e]; rfl
            clear hx e1 e2 e hthOk hgd hc hm h0 hl
            generalize tx l = S at hs HC ne ne2 hb ⊢
            generalize pv l 14 = V at HC ⊢
            go_enter Tryz.func175, Tryz.ntmps175
            go_wp2_with fail
            refine (HC.out _).mono ?_
            rintro e w' ⟨rfl, rfl⟩
            go_wp2_with fail
            go_ret2
            exact ⟨rfl, rfl⟩
          · obtain ⟨e1, e2, -⟩ := thV_yes (l := l) (by rw [hthOk]; simpa using e)
            rw [e1, e2]
            have ce : ((c.toNat : Int) == 48) = false := by
              have : ¬ (c.toNat : Int) = 48 := fun h => e (u8_eq (by have : c.toNat = 48 := (by omega); rw [this]; rfl))
              simpa using this
            clear hx e1 e2 e hthOk hgd hc hm h0 hl
            generalize tx l = S at hs HC ne ne2 hb ⊢
            generalize pv l 14 = V at HC ⊢
            go_enter Tryz.func175, Tryz.ntmps175
            go_wp2_with fail
            refine (HC.out _).mono ?_
            rintro e w' ⟨rfl, rfl⟩
            go_wp2_with fail
            go_ret2
            exact ⟨rfl, rfl⟩
        · obtain rfl : m = 0 := by omega
          obtain ⟨e1, e2, -⟩ := thV_yes (l := l) (by rw [hthOk]; rfl)
          rw [e1, e2]
          clear hx e1 e2 hthOk hgd hc hm h0 hl
          generalize tx l = S at hs HC ne ne2 hb ⊢
          generalize pv l 14 = V at HC ⊢
          go_enter Tryz.func175, Tryz.ntmps175
          go_wp2_with fail
          refine (HC.out _).mono ?_
          rintro e w' ⟨rfl, rfl⟩
          go_wp2_with fail
          go_ret2
          exact ⟨rfl, rfl⟩
      · obtain ⟨e1, e2, -⟩ := thV_no (l := l) (by unfold thOk; rw [hx, decide_eq_false (by omega)]; rfl)
        rw [e1, e2]
        clear hx e1 e2
        generalize tx l = S at hs HC ne ne2 ⊢
        generalize pv l 14 = V at HC ⊢
        go_enter Tryz.func175, Tryz.ntmps175
        go_wp2_with fail
        refine (HC.out _).mono ?_
        rintro e w' ⟨rfl, rfl⟩
        go_wp2_with fail
        go_ret2
        exact ⟨rfl, rfl⟩
    · obtain rfl : l = [] := List.eq_nil_of_length_eq_zero (by omega)
      obtain ⟨e1, e2, -⟩ := thV_no (l := []) (by unfold thOk; rw [hx]; rfl)
      rw [e1, e2]
      rw [show tx [] = ⟨#[]⟩ from rfl] at HC ⊢
      generalize pv [] 14 = V at HC ⊢
      go_enter Tryz.func175, Tryz.ntmps175
      go_wp2_with fail
      refine (HC.out _).mono ?_
      rintro e w' ⟨rfl, rfl⟩
      go_wp2_with fail
      go_ret2
      exact ⟨rfl, rfl⟩
end Go.Proofs.YtjpbjghdplbdcaaGreatDoor
end
section
namespace Go.Proofs.YtjpbjghdplbdcaaGreatDoor
open Go.RowKit Go.Shelf
theorem not_text {s : ByteArray} {l : List UInt8} (h : ¬ s = ⟨l.toArray⟩) : (s.toList == l) = false := by
  rw [ByteArray.toList_eq]
  have : ¬ s.data.toList = l := fun e => h (ByteArray.ext (Array.toList_inj.1 (by simpa using e)))
  simpa using this
theorem is_text {s : ByteArray} {l : List UInt8} (h : s = ⟨l.toArray⟩) : (s.toList == l) = true := by
  rw [ByteArray.toList_eq, h]
  simp
def mkV (m : Mk) : List Value := [.int .i64 m.1, .int .i64 m.2.1, .bool m.2.2.1, .bool m.2.2.2]
def mkA (m : Mk) : Value := .agg #[.int .i64 m.1, .int .i64 m.2.1, .bool m.2.2.1, .bool m.2.2.2]
section
variable {A : Option Addr} {n c : Nat} {ps : List Pr} {w : World}
end
end Go.Proofs.YtjpbjghdplbdcaaGreatDoor
end
