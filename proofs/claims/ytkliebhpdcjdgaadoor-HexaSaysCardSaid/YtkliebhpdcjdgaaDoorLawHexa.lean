/-
  The walk of the law HexaSays. Conditions: a text's length.
-/
import Derived.Test.YtkliebhpdcjdgaaDoorHexa2
import Derived.Test.YtkliebhpdcjdgaaDoorHexa3
namespace Go.Proofs.YtkliebhpdcjdgaaDoor
open Go.RowKit

/-- What one reading answers, and what the document says. -/
def Two (V E R : Int) : Prop := (V = R ∧ E = 0 ∧ 0 ≤ R) ∨ (V = 0 ∧ E = 3 ∧ R = -1)
theorem th_two (l : List UInt8) : Two (thV l) (thE l) (thR l) := by
  cases h : thOk l
  · obtain ⟨h1, h2, h3⟩ := thV_no h
    exact .inr ⟨h1, h2, h3⟩
  · obtain ⟨h1, h2, h3⟩ := thV_yes h
    exact .inl ⟨by rw [h1, h3], h2, by rw [h3]; omega⟩
theorem rv_two (l : List UInt8) : Two (rvV l) (rvE l) (rvR l) := by
  cases h : rvOk l
  · obtain ⟨h1, h2, h3⟩ := rvV_no h
    exact .inr ⟨h1, h2, h3⟩
  · obtain ⟨h1, h2, h3⟩ := rvV_yes h
    exact .inl ⟨by rw [h1, h3], h2, by rw [h3]; omega⟩
theorem pth_one (w : World) : Calls Tryd.prog 20 #[.string ⟨#[56]⟩] w fun e w' => e = .returned (.tuple #[.int .i64 36028797018963968, .int .i64 0]) ∧ w = w' := by
  have h := pth_any (l := [56]) (by decide) w
  rw [show thV [56] = 36028797018963968 by decide +kernel, show thE [56] = 0 by decide +kernel] at h
  exact h
theorem no_text : (⟨#[]⟩ : ByteArray).toList.isEmpty = true := by rw [ByteArray.toList_eq]; rfl

set_option maxRecDepth 20000 in
set_option maxHeartbeats 3200000 in
theorem law_hexa_no {n : Int} {S : ByteArray} {V1 E1 R1 V2 E2 R2 : Int} (hd : isDraw n = false)
    (C3 : Hid (∀ w : World, Calls Tryd.prog 20 #[.string S] w fun e w' => e = .returned (.tuple #[.int .i64 V1, .int .i64 E1]) ∧ w = w'))
    (C4 : Hid (∀ w : World, Calls Tryd.prog 21 #[.string S] w fun e w' => e = .returned (.tuple #[.int .i64 V2, .int .i64 E2]) ∧ w = w'))
    (C5 : Hid (∀ w : World, Calls Tryd.prog 25 #[.string S] w fun e w' => e = .returned (.int .i64 R1) ∧ Below w.heap.size w w'))
    (C6 : Hid (∀ w : World, Calls Tryd.prog 26 #[.string S] w fun e w' => e = .returned (.int .i64 R2) ∧ Below w.heap.size w w'))
    (T1 : Two V1 E1 R1) (T2 : Two V2 E2 R2) (w : World) :
    Calls Tryd.prog 4 #[.int .i64 n, .string S] w fun e w' => e = .returned (.bool true) ∧ Below w.heap.size w w' := by
  have e0 := no_text
  have HD := hide hd
  clear hd
  rcases T1 with ⟨rfl, rfl, p1⟩ | ⟨rfl, rfl, rfl⟩
  all_goals rcases T2 with ⟨rfl, rfl, p2⟩ | ⟨rfl, rfl, rfl⟩
  all_goals
    go_enter Tryd.func4, Tryd.ntmps4
    go_wp2_with fail
    refine (th_no HD.out _).mono ?_
    rintro e w1 ⟨rfl, rfl⟩
    go_wp2_with fail
    refine (rv_no HD.out _).mono ?_
    rintro e w1 ⟨rfl, rfl⟩
    go_wp2_with fail
    refine (C3.out _).mono ?_
    rintro e w1 ⟨rfl, rfl⟩
    go_wp2_with fail
    refine (C4.out _).mono ?_
    rintro e w1 ⟨rfl, rfl⟩
    go_wp2_with fail
    refine (draw_is HD.out _).mono ?_
    rintro e w1 ⟨rfl, rfl⟩
    go_wp2_with fail
    refine (pth_one _).mono ?_
    rintro e w1 ⟨rfl, rfl⟩
    go_wp2_with fail
    refine (C5.out _).mono ?_
    rintro e w3 ⟨rfl, bel3⟩
    go_wp2_with fail
    refine (C6.out _).mono ?_
    rintro e w4 ⟨rfl, bel4⟩
    go_wp2_with fail
    go_ret
    exact ⟨rfl, below_on bel3 bel4⟩

set_option maxRecDepth 20000 in
set_option maxHeartbeats 3200000 in
theorem law_hexa_yes {n : Int} {S : ByteArray} {V1 E1 R1 V2 E2 R2 : Int} {A B : ByteArray} (hd : isDraw n = true)
    (C1 : Hid (∀ w : World, Calls Tryd.prog 17 #[.int .i64 n] w fun e w' => e = .returned (.tuple #[.string A, .int .i64 0]) ∧ ∃ q, w' = w.drewN q))
    (C2 : Hid (∀ w : World, Calls Tryd.prog 19 #[.int .i64 n] w fun e w' => e = .returned (.tuple #[.string B, .int .i64 0]) ∧ ∃ q, w' = w.drewN q))
    (C7 : Hid (∀ w : World, Calls Tryd.prog 23 #[.int .i64 n] w fun e w' => e = .returned (.string A) ∧ w = w'))
    (C8 : Hid (∀ w : World, Calls Tryd.prog 24 #[.int .i64 n] w fun e w' => e = .returned (.string B) ∧ w = w'))
    (C3 : Hid (∀ w : World, Calls Tryd.prog 20 #[.string S] w fun e w' => e = .returned (.tuple #[.int .i64 V1, .int .i64 E1]) ∧ w = w'))
    (C4 : Hid (∀ w : World, Calls Tryd.prog 21 #[.string S] w fun e w' => e = .returned (.tuple #[.int .i64 V2, .int .i64 E2]) ∧ w = w'))
    (C5 : Hid (∀ w : World, Calls Tryd.prog 25 #[.string S] w fun e w' => e = .returned (.int .i64 R1) ∧ Below w.heap.size w w'))
    (C6 : Hid (∀ w : World, Calls Tryd.prog 26 #[.string S] w fun e w' => e = .returned (.int .i64 R2) ∧ Below w.heap.size w w'))
    (T1 : Two V1 E1 R1) (T2 : Two V2 E2 R2) (w : World) :
    Calls Tryd.prog 4 #[.int .i64 n, .string S] w fun e w' => e = .returned (.bool true) ∧ Below w.heap.size w w' := by
  have e0 := no_text
  have HD := hide hd
  clear hd
  rcases T1 with ⟨rfl, rfl, p1⟩ | ⟨rfl, rfl, rfl⟩
  all_goals rcases T2 with ⟨rfl, rfl, p2⟩ | ⟨rfl, rfl, rfl⟩
  all_goals
    go_enter Tryd.func4, Tryd.ntmps4
    go_wp2_with fail
    refine (C1.out _).mono ?_
    rintro e w1 ⟨rfl, q1, rfl⟩
    go_wp2_with fail
    refine (C2.out _).mono ?_
    rintro e w2 ⟨rfl, q2, rfl⟩
    go_wp2_with fail
    refine (C3.out _).mono ?_
    rintro e w1 ⟨rfl, rfl⟩
    go_wp2_with fail
    refine (C4.out _).mono ?_
    rintro e w1 ⟨rfl, rfl⟩
    go_wp2_with fail
    refine (draw_is HD.out _).mono ?_
    rintro e w1 ⟨rfl, rfl⟩
    go_wp2_with fail
    refine (C7.out _).mono ?_
    rintro e w1 ⟨rfl, rfl⟩
    go_wp2_with fail
    refine (C8.out _).mono ?_
    rintro e w1 ⟨rfl, rfl⟩
    go_wp2_with fail
    refine (pth_one _).mono ?_
    rintro e w1 ⟨rfl, rfl⟩
    go_wp2_with fail
    refine (C5.out _).mono ?_
    rintro e w3 ⟨rfl, bel3⟩
    go_wp2_with fail
    refine (C6.out _).mono ?_
    rintro e w4 ⟨rfl, bel4⟩
    go_wp2_with fail
    go_ret
    exact ⟨rfl, by first | exact below_on (below_on (below_drewN (Below.refl _ _) _) bel3) bel4 | exact below_on (below_on (below_drewN (below_drewN (Below.refl _ _) _) _) bel3) bel4⟩

theorem law_hexa (n : Int) (s : ByteArray) (w : World) (hs : s.size ≤ 140737488351232) : Calls Tryd.prog 4 #[.int .i64 n, .string s] w fun e w' => e = .returned (.bool true) ∧ Below w.heap.size w w' := by
  obtain ⟨l, rfl⟩ : ∃ l, s = tx l := ⟨s.data.toList, tx_of s⟩
  rw [tx_size] at hs
  cases hd : isDraw n
  · exact law_hexa_no hd (hide (pth_any hs)) (hide (prv_any hs)) (hide (rpth_any hs)) (hide (rprv_any hs)) (th_two l) (rv_two l) w
  · have hb := of_decide_eq_true (show decide (0 ≤ n ∧ n ≤ 72057594037927935) = true from hd)
    obtain ⟨N, rfl⟩ : ∃ N : Nat, n = (N : Int) := ⟨n.toNat, by omega⟩
    exact law_hexa_yes hd (hide (th_any N hd)) (hide (rv_any N hd)) (hide (rth_any (by omega))) (hide (rrv_any (by omega))) (hide (pth_any hs)) (hide (prv_any hs)) (hide (rpth_any hs)) (hide (rprv_any hs)) (th_two l) (rv_two l) w
end Go.Proofs.YtkliebhpdcjdgaaDoor
