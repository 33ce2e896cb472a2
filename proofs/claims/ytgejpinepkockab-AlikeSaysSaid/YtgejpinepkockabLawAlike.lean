/-
  The walk of the law AlikeSays. Conditions: the slices read as lists; there are no more of them than memory holds.
-/
import Derived.Test.YtgejpinepkockabAlike4
import Derived.Deep.QuietTactic
import Derived.BigQuiet
namespace Go.Proofs.Ytgejpinepkockab
open Go.RowKit

theorem want_next {N n k : Nat} {ls : List Int} {os : List Row} : wantTo N n ls os (k + 1) = if wantTo N n ls os k = 0 then fE n ls os k else wantTo N n ls os k := by
  unfold wantTo
  by_cases h : 40 < N
  · rw [if_pos h, if_pos h, if_neg (by decide)]
  · rw [if_neg h, if_neg h, eTo]
theorem first_v : fVal 2 2 [1, 0] [0, 1] = 1 := by decide
theorem first_e : fErr 2 2 [1, 0] [0, 1] = 0 := by decide
theorem same_is {A B : Option Addr} {n c m d : Nat} {xs ys : List Int} {w : World} (h : Si w A n c xs) (hk : Si w B m d ys) {V E : Int} (hv : sVal n m xs ys = V) (he : sErr n m = E) :
    Calls Try.prog 25 #[.slice A n c, .slice B m d] w fun e w' => e = .returned (.tuple #[.int .i64 V, .int .i64 E]) ∧ Below w.heap.size w w' := by
  have k := same_any h hk; rw [hv, he] at k; exact k
set_option maxRecDepth 100000 in
set_option maxHeartbeats 6400000 in
theorem law_alike (B : Option Addr) (N d : Nat) (os : List Row) (A : Option Addr) (n c : Nat) (ls : List Int) (A2 : Option Addr) (m c2 : Nat) (ms : List Int) (w : World)
    (hs : Ss w B N d os) (hN : N * 24 ≤ 140737488351232) (h : Si w A n c ls) (hk : Si w A2 m c2 ms) :
    Calls Try.prog 5 #[.slice B N d, .slice A n c, .slice A2 m c2] w fun e w' => e = .returned (.bool true) ∧ Below w.heap.size w w' := by
  have hm := h.len_max
  have hm2 := hk.len_max
  have hm3 := hs.s.len_max
  have hmx := hs.s.max
  have hcap := hs.s.cap
  have HL := hide hs.len
  obtain ⟨SV, hSV⟩ : ∃ V, sVal n m ls ms = V := ⟨_, rfl⟩
  obtain ⟨SE, hSE⟩ : ∃ E, sErr n m = E := ⟨_, rfl⟩
  obtain ⟨WE, hWE⟩ : ∃ E, wantTo N n ls os N = E := ⟨_, rfl⟩
  have HSV := hide hSV
  have HSE := hide hSE
  have HWE := hide hWE
  have CS := hide (fun (w : World) (hs : Ss w B N d os) (h : Si w A n c ls) => sign_any hs h)
  rw [hWE] at CS
  clear hSV hSE hWE
  go_enter Try.func5, Try.ntmps5
  go_wp2_with fail
  refine (CS.out _ hs h).mono ?_
  rintro e w1 ⟨AS, kS, cS, rfl, hS, hb1⟩
  have HS := hide hS
  clear hS
  go_wp2_with fail
  refine (same_is (h.on hb1) (hk.on hb1) HSV.out HSE.out).mono ?_
  rintro e w2 ⟨rfl, hb2⟩
  have k2 := below_on hb1 hb2
  go_wp2_with fail
  refine (first_is (os := [1, 0]) (ls := [0, 1]) (Sl.blk 1 2 (e := 3) (by simp only [heap_alloc_get, World.size_alloc]; simp [ints]) rfl (by simp [maxLen])) (Sl.blk 1 2 (e := 3) (by simp only [heap_alloc_get, World.size_alloc]; simp [ints]) rfl (by simp [maxLen])) first_v first_e).mono ?_
  rintro e w3 ⟨rfl, hb3⟩
  have k3 : Below w.heap.size w w3 := below_on (by repeat' (first | assumption | with_reducible exact Below.refl _ _ | with_reducible apply Below.drew | with_reducible apply below_drewN | with_reducible apply below_alloc | with_reducible refine below_set ?_ ?_ _ | (simp only [World.size_alloc, World.heap_drewN]; omega) | (simp; omega))) hb3
  have b23 : Below w2.heap.size w2 w3 := below_on (by repeat' (first | assumption | with_reducible exact Below.refl _ _ | with_reducible apply Below.drew | with_reducible apply below_drewN | with_reducible apply below_alloc | with_reducible refine below_set ?_ ?_ _ | (simp only [World.size_alloc, World.heap_drewN]; omega) | (simp; omega))) hb3
  have b13 := below_on hb2 b23
  have hs3 := hs.on k3
  have h3 := h.on k3
  have hk3 := hk.on k3
  have hN8 : N ≤ 17592186044416 := by omega
  clear hb2 b23 hb3 k2 CS
  by_cases gN : 40 < N
  case' pos =>
    have hW0 := hide (show wantTo N n ls os 0 = 2 from if_pos gN)
    go_wp2_with fail
    try rw [decide_eq_true (show (40 : Int) < (N : Int) by omega)]
  case' neg =>
    have hW0 := hide (show wantTo N n ls os 0 = 0 by unfold wantTo; rw [if_neg gN]; rfl)
    go_wp2_with fail
    try rw [decide_eq_false (show ¬ (40 : Int) < (N : Int) by omega)]
  all_goals
    clear gN
    go_loopw [13, 14, 52] (fun vo vw vi wr => ∃ (k : Nat) (Ao : Option Addr) (co : Nat), k ≤ N ∧ vi = .int .i64 k ∧ vo = .slice Ao k co ∧ vw = .int .i64 (wantTo N n ls os k) ∧ Own wr w3.heap.size 3 1 Ao k co (ints ((os.take k).map (fV n ls))) ∧ Below w3.heap.size w3 wr) (fun _ _ i _ => N - (intOf i).toNat)
    case atStart => exact ⟨0, none, 0, Nat.zero_le _, rfl, rfl, by rw [hW0.out], Own.nil _ _ _ _, Below.refl _ _⟩
    case round =>
      obtain ⟨k, Ao, co, hk1, rfl, rfl, rfl, own, hb⟩ := hrel
      have HWN := hide (want_next (N := N) (n := n) (k := k) (ls := ls) (os := os))
      by_cases hlt : k < N
      · obtain ⟨W, hW⟩ : ∃ W, wantTo N n ls os k = W := ⟨_, rfl⟩
        rw [hW] at HWN ⊢
        clear hW
        obtain ⟨ad, o, rfl, hbk, ho, hc, hso⟩ := (hs3.on hb).cell hlt
        obtain ⟨V, hV⟩ : ∃ V, fVal o.2.1 n o.2.2.2 ls = V := ⟨_, rfl⟩
        obtain ⟨E, hE⟩ : ∃ E, fErr o.2.1 n o.2.2.2 ls = E := ⟨_, rfl⟩
        have HV := hide hV
        have HEE := hide hE
        have HFE := hide ((fE_at (n := n) (ls := ls) ho).trans hE)
        have HT := hide ((take_map (f := fV n ls) ho).trans (by rw [show fV n ls o = V from hV]))
        clear hV hE ho
        obtain ⟨Ar, nr, cr, zr⟩ := o
        dsimp only at hc hso HV HEE
        have tv : (V != V) = false := by simp
        have te : (E != E) = false := by simp
        by_cases w0 : W = 0
        · have tw : (W == 0) = true := by simp [w0]
          have HN := hide (show wantTo N n ls os (k + 1) = E by rw [HWN.out, if_pos w0, HFE.out])
          clear w0
          go_wp2_with fail
          refine (first_is (h3.on hb) hso HV.out HEE.out).mono ?_
          rintro e w4 ⟨rfl, hb4⟩
          have own4 := own.below hb4 (Nat.le_refl _)
          have hk4 := below_on hb hb4
          have z4 := hk4.size
          go_wp2_with fail
          refine (rfirst_is (h3.on hk4) (hso.on hb4) HV.out HEE.out).mono ?_
          rintro e w5 ⟨rfl, rfl⟩
          go_wp2_with (at_builtin; refine wpList_append_sl T_int rfl _ _ rfl (by rfl) (by rfl) (own4.alloc _) (Sl.lit (at_new _ _)) (ints_one [V]) (by simp only [maxLen]; omega) (by omega) (by simp; omega) ?_; intro A6 c6 w6 ap)
          have own6 := ap.own
          have hb6 : Below w3.heap.size w3 w6 := (hk4.alloc z4 _).trans ap.below
          rw [show ints ((os.take k).map (fV n ls)) ++ [Value.int .i64 V] = ints ((os.take (k + 1)).map (fV n ls)) from by rw [HT.out, ints_append]; rfl] at own6
          clear ap
          go_wp2_with fail
          go_roundw
          case rel => exact ⟨k + 1, A6, c6, by omega, by go_num, rfl, by rw [HN.out], own6, hb6⟩
          case measure => simp [intOf]; omega
        · have tw : (W == 0) = false := by simpa using w0
          have HN := hide (show wantTo N n ls os (k + 1) = W by rw [HWN.out, if_neg w0])
          clear w0
          go_wp2_with fail
          refine (first_is (h3.on hb) hso HV.out HEE.out).mono ?_
          rintro e w4 ⟨rfl, hb4⟩
          have own4 := own.below hb4 (Nat.le_refl _)
          have hk4 := below_on hb hb4
          have z4 := hk4.size
          go_wp2_with fail
          refine (rfirst_is (h3.on hk4) (hso.on hb4) HV.out HEE.out).mono ?_
          rintro e w5 ⟨rfl, rfl⟩
          go_wp2_with (at_builtin; refine wpList_append_sl T_int rfl _ _ rfl (by rfl) (by rfl) (own4.alloc _) (Sl.lit (at_new _ _)) (ints_one [V]) (by simp only [maxLen]; omega) (by omega) (by simp; omega) ?_; intro A6 c6 w6 ap)
          have own6 := ap.own
          have hb6 : Below w3.heap.size w3 w6 := (hk4.alloc z4 _).trans ap.below
          rw [show ints ((os.take k).map (fV n ls)) ++ [Value.int .i64 V] = ints ((os.take (k + 1)).map (fV n ls)) from by rw [HT.out, ints_append]; rfl] at own6
          clear ap
          go_wp2_with fail
          go_roundw
          case rel => exact ⟨k + 1, A6, c6, by omega, by go_num, rfl, by rw [HN.out], own6, hb6⟩
          case measure => simp [intOf]; omega
      · obtain rfl : N = k := by omega
        rw [HWE.out]
        rw [List.take_of_length_le (by rw [HL.out]; exact Nat.le_refl _)] at own
        have kk := below_on k3 hb
        rcases HS.out with ⟨hE0, hkS, ownS⟩ | ⟨hE0, hkS⟩
        case' inl =>
          subst hE0
          have hkS' := hkS.symm
          clear hkS
          subst hkS'
          go_wp2_with fail
          refine (equal_yes _ _ _ _ _ _ _ (ownS.sl.on (below_on b13 hb)) own.sl).mono ?_
          rintro e w7 ⟨rfl, q7, rfl⟩
          have k7 := below_drewN kk q7
          obtain ⟨w7, hw7⟩ : ∃ w7, wr.drewN q7 = w7 := ⟨_, rfl⟩
          rw [hw7] at k7 ⊢
          clear hw7 ownS
        case' inr =>
          subst hkS
          have tE : (WE != 0) = true := by simpa using hE0
          have HE0 := hide hE0
          clear hE0
          have k7 := kk
          obtain ⟨w7, hw7⟩ : ∃ w7, wr = w7 := ⟨_, rfl⟩
          rw [hw7] at k7 ⊢
          clear hw7
        all_goals
          clear own hb kk HS HWN
          by_cases g1 : 40 < n
          · have e1 : SE = 2 := by rw [← HSE.out]; exact if_pos (.inl g1)
            have e2 : SV = 0 := by rw [← HSV.out]; unfold sVal; rw [HSE.out, e1, if_neg (by decide)]
            subst e1
            subst e2
            go_wp2_with fail
            go_ret
            exact ⟨rfl, k7⟩
          by_cases g2 : 40 < m
          · have e1 : SE = 2 := by rw [← HSE.out]; exact if_pos (.inr g2)
            have e2 : SV = 0 := by rw [← HSV.out]; unfold sVal; rw [HSE.out, e1, if_neg (by decide)]
            subst e1
            subst e2
            go_wp2_with fail
            go_ret
            exact ⟨rfl, k7⟩
          by_cases g3 : n = m
          · have e1 : SE = 0 := by rw [← HSE.out]; unfold sErr; rw [if_neg (by omega), if_neg (by simpa using g3)]
            have e2 : SV = sameTo ls ms n := by rw [← HSV.out]; unfold sVal; rw [HSE.out, e1, if_pos rfl]
            have HSS := hide e2
            subst e1
            subst g3
            clear e2 HSV HSE
            have h7 := h.on k7
            have hk7 := hk.on k7
            go_wp2_with fail
            go_loopw [21, 129] (fun vu vi wr => ∃ k q : Nat, k ≤ n ∧ vi = .int .i64 k ∧ vu = .int .i64 ((k : Int) - sameTo ls ms k) ∧ wr = w7.drewN q) (fun _ i _ => n - (intOf i).toNat)
            case atStart => exact ⟨0, 0, Nat.zero_le _, rfl, rfl, rfl⟩
            case round =>
              obtain ⟨j, q, hj, rfl, rfl, rfl⟩ := hrel
              obtain ⟨s1, s2⟩ := sameTo_in ls ms j
              by_cases hjn : j < n
              · obtain ⟨ad, x, rfl, hbx, hx, hcx⟩ := h7.icell hjn
                obtain ⟨ae, y, rfl, hby, hy, hcy⟩ := hk7.icell hjn
                have HN := hide (sameTo_next hx hy)
                clear hx hy
                obtain ⟨S, hS⟩ : ∃ S, sameTo ls ms j = S := ⟨_, rfl⟩
                rw [hS] at s1 s2 HN ⊢
                clear hS
                by_cases hxy : x = y
                · have t1 : (x != y) = false := by simp [hxy]
                  have HM := hide (show ((j + 1 : Nat) : Int) - sameTo ls ms (j + 1) = (j : Int) - S by rw [HN.out, if_pos hxy]; omega)
                  clear hxy
                  go_wp2_with fail
                  go_quiet (fail)
                  go_wp2_with fail
                  go_roundw
                  case rel => exact ⟨j + 1, _, by omega, by go_num, by rw [HM.out], rfl⟩
                  case measure => simp [intOf]; omega
                · have t1 : (x != y) = true := by simpa using hxy
                  have HM := hide (show ((j + 1 : Nat) : Int) - sameTo ls ms (j + 1) = (j : Int) - S + 1 by rw [HN.out, if_neg hxy]; omega)
                  clear hxy
                  go_wp2_with fail
                  go_quiet (fail)
                  go_wp2_with fail
                  go_roundw
                  case rel => exact ⟨j + 1, _, by omega, by go_num, by rw [HM.out], rfl⟩
                  case measure => simp [intOf]; omega
              · obtain rfl : j = n := by omega
                have hSS := HSS.out
                obtain ⟨S, hS⟩ : ∃ S, sameTo ls ms j = S := ⟨_, rfl⟩
                rw [hS] at s1 s2 hSS ⊢
                clear hS HSS
                subst hSS
                have eS : (j : Int) - ((j : Int) - SV) = SV := by omega
                have k8 := below_drewN k7 q
                go_wp2_with fail
                go_ret
                exact ⟨by simp, k8⟩
          · have e1 : SE = 7 := by rw [← HSE.out]; unfold sErr; rw [if_neg (by omega), if_pos g3]
            have e2 : SV = 0 := by rw [← HSV.out]; unfold sVal; rw [HSE.out, e1, if_neg (by decide)]
            subst e1
            subst e2
            have tnm : ((n : Int) != (m : Int)) = true := by simp; omega
            clear g3
            go_wp2_with fail
            go_ret
            exact ⟨rfl, k7⟩
end Go.Proofs.Ytgejpinepkockab
