/-
  share.Fair: the walk. Conditions: the slice reads as a list of numbers.
-/
import Derived.Test.YtkliebhpdcjdgaaShareT
import Derived.Test.YtkliebhpdcjdgaaSort5
import Derived.Deep.DeepCutAuto
namespace Go.Proofs.Ytkliebhpdcjdgaa
open Go.RowKit

/-- The first k numbers, and noughts. -/
def idTo (n k : Nat) : List Int := (List.range n).map fun (i : Nat) => if i < k then (i : Int) else 0
theorem idTo_len (n k : Nat) : (idTo n k).length = n := by simp [idTo]
theorem idTo_zero (n : Nat) : idTo n 0 = List.replicate n 0 := by
  apply List.ext_getElem?
  intro i
  simp only [idTo, List.getElem?_map, List.getElem?_replicate]
  by_cases h : i < n <;> simp [h]
theorem idTo_set {n k : Nat} (h : k < n) : (idTo n k).set k (k : Int) = idTo n (k + 1) := by
  apply List.ext_getElem?
  intro m
  by_cases hm : m < n
  · rw [List.getElem?_set]
    simp only [idTo_len]
    by_cases e : k = m
    · subst e; simp [idTo, hm]
    · rw [if_neg e]
      simp only [idTo, List.getElem?_map]
      rw [List.getElem?_range hm]
      simp only [Option.map_some, Option.some.injEq]
      by_cases h2 : m < k
      · rw [if_pos h2, if_pos (by omega)]
      · rw [if_neg h2, if_neg (by omega)]
  · rw [List.getElem?_eq_none (by simp [idTo]; omega), List.getElem?_eq_none (by simp [idTo]; omega)]
theorem el_id {n i : Nat} (h : i < n) : el (idTo n n) i = i := el_of (by simp [idTo, h])
theorem pm_id (n : Nat) : Pm n (idTo n n) :=
  ⟨idTo_len n n, fun i hi => ⟨i, hi, el_id hi⟩, fun i j hi hj e => by rw [el_id hi, el_id hj] at e; omega, fun v hv => ⟨v, hv, el_id hv⟩⟩
theorem stb_id (κ : Int → Int) (n : Nat) : Stb κ (idTo n n) 0 n := fun i j _ hij hj _ => by rw [el_id (by omega), el_id hj]; omega
def FairRet (w : World) (l : List Int) (n : Nat) (room : Int) (e : Ending) (w' : World) : Prop :=
  ∃ A c o, e = .returned (.tuple #[.slice A n c, .int .i64 0]) ∧ Si w' A n c (fOut l o n room n) ∧ Pm n o ∧ Srt (kap l) o 0 n ∧ Below w.heap.size w w'
section
variable {A : Option Addr} {n c b : Nat} {l : List Int} {w : World} {room : Int}
set_option maxRecDepth 20000 in
set_option maxHeartbeats 1600000 in
theorem fairFn (h : Si w A n c l) (hc : w.cell? ⟨b, 0, none⟩ = some (.slice A n c)) (hw : Wts n l) {x y : Int} (x0 : 0 ≤ x) (x1 : x < n) (y0 : 0 ≤ y) (y1 : y < n) :
    Calls Try.prog 89 #[.int .i64 x, .int .i64 y, .pointer (some ⟨b, 0, none⟩)] w fun e w' => e = .returned (.int .i64 (kap l x - kap l y)) ∧ ∃ q, w' = w.drewN q := by
  have hm := h.len_max
  obtain ⟨i, rfl⟩ := Int.eq_ofNat_of_zero_le x0
  obtain ⟨j, rfl⟩ := Int.eq_ofNat_of_zero_le y0
  have hi : i < n := by omega
  have hj : j < n := by omega
  obtain ⟨ad, x, rfl, hb, hx, hcx⟩ := h.icell hi
  obtain ⟨ad2, y, e2, hb2, hy, hcy⟩ := h.icell hj
  injection e2 with e2
  subst e2
  have h1 := hw.cnt i hi
  have h2 := hw.cnt j hj
  rw [el_of hx] at h1
  rw [el_of hy] at h2
  obtain ⟨h1a, h1b⟩ := h1
  obtain ⟨h2a, h2b⟩ := h2
  have HK := hide (show kap l (i : Int) - kap l (j : Int) = x - y by rw [kap_nat, kap_nat, el_of hx, el_of hy])
  have ew : IntKind.i64.wrap (x - y) = x - y := by rw [IntKind.wrap_i64]; omega
  rw [HK.out]
  clear hx hy
  go_enter Try.func89, Try.ntmps89
  go_wp2_with fail
  go_quiet (fail)
  go_wp2_with fail
  go_ret
  exact ⟨rfl, _, rfl⟩
set_option maxRecDepth 20000 in
set_option maxHeartbeats 1600000 in
theorem fair_bad (h : Si w A n c l) {E : Int} (he : wtErr room n l = E) (h0 : ¬ E = 0) :
    Calls Try.prog 48 #[.int .i64 room, .slice A n c] w fun e w' => e = .returned (.tuple #[.slice none 0 0, .int .i64 E]) ∧ Below w.heap.size w w' := by
  by_cases h1 : wtOne n l = 0
  · have hE : E = 1 ∧ (room < 0 ∨ (¬ room < 0 ∧ 1000000000000 < room)) := by
      unfold wtOne at h1
      unfold wtErr at he
      by_cases g1 : 40 < n
      · rw [if_pos g1] at h1; omega
      · rw [if_neg g1] at h1 he
        by_cases g2 : cntsTo l n = true
        · by_cases g3 : isCnt room = true
          · rw [if_pos ⟨g2, g3⟩] at he; omega
          · rw [if_neg (fun h => g3 h.2)] at he
            refine ⟨by omega, ?_⟩
            have : ¬ (0 ≤ room ∧ room ≤ 1000000000000) := fun h => g3 (isCnt_yes h)
            omega
        · rw [if_neg g2] at h1; omega
    obtain ⟨rfl, hr⟩ := hE
    have H1 := hide h1
    clear h1 he h0
    rcases hr with r1 | ⟨r1, r2⟩
    all_goals
      go_enter Try.func48, Try.ntmps48
      go_wp2_with fail
      refine (wants_is (h.on (by repeat' (first | assumption | with_reducible exact Below.refl _ _ | with_reducible apply Below.drew | with_reducible apply below_drewN | with_reducible apply below_alloc | with_reducible refine below_set ?_ ?_ _ | (simp only [World.size_alloc, World.heap_drewN]; omega) | (simp; omega)))) H1.out).mono ?_
      rintro e w1 ⟨rfl, hb1⟩
      have k1 : Below w.heap.size w w1 := below_on (by repeat' (first | assumption | with_reducible exact Below.refl _ _ | with_reducible apply Below.drew | with_reducible apply below_drewN | with_reducible apply below_alloc | with_reducible refine below_set ?_ ?_ _ | (simp only [World.size_alloc, World.heap_drewN]; omega) | (simp; omega))) hb1
      go_wp2_with fail
      go_ret2
      exact ⟨rfl, k1⟩
  · have hE : wtOne n l = E := by
      unfold wtOne at h1 ⊢
      unfold wtErr at he
      by_cases g1 : 40 < n
      · rw [if_pos g1] at he ⊢; exact he
      · rw [if_neg g1] at h1 he ⊢
        by_cases g2 : cntsTo l n = true
        · rw [if_pos g2] at h1; omega
        · rw [if_neg (fun h => g2 h.1)] at he
          rw [if_neg g2]; exact he
    have H1 := hide hE
    have t1 : (E != 0) = true := by simpa using h0
    clear h1 he h0 hE
    go_enter Try.func48, Try.ntmps48
    go_wp2_with fail
    refine (wants_is (h.on (by repeat' (first | assumption | with_reducible exact Below.refl _ _ | with_reducible apply Below.drew | with_reducible apply below_drewN | with_reducible apply below_alloc | with_reducible refine below_set ?_ ?_ _ | (simp only [World.size_alloc, World.heap_drewN]; omega) | (simp; omega)))) H1.out).mono ?_
    rintro e w1 ⟨rfl, hb1⟩
    have k1 : Below w.heap.size w w1 := below_on (by repeat' (first | assumption | with_reducible exact Below.refl _ _ | with_reducible apply Below.drew | with_reducible apply below_drewN | with_reducible apply below_alloc | with_reducible refine below_set ?_ ?_ _ | (simp only [World.size_alloc, World.heap_drewN]; omega) | (simp; omega))) hb1
    go_wp2_with fail
    go_ret2
    exact ⟨rfl, k1⟩
set_option maxRecDepth 100000 in
set_option maxHeartbeats 3200000 in
theorem fair_ok (h : Si w A n c l) (he : wtErr room n l = 0) :
    Calls Try.prog 48 #[.int .i64 room, .slice A n c] w (FairRet w l n room) := by
  obtain ⟨n4, hw, r0, r1⟩ := wts_of h.ilen he
  have HW := hide hw
  have H1 := hide (show wtOne n l = 0 by
    unfold wtErr at he
    unfold wtOne
    rw [if_neg (by omega)] at he ⊢
    by_cases hc : cntsTo l n = true
    · rw [if_pos hc]
    · rw [if_neg (fun h => hc h.1)] at he; omega)
  clear he hw
  have HB0 := hide (Blk.new w 22 #[.slice A n c])
  go_enter Try.func48, Try.ntmps48
  go_wp2_with fail
  refine (wants_is (h.on (by repeat' (first | assumption | with_reducible exact Below.refl _ _ | with_reducible apply Below.drew | with_reducible apply below_drewN | with_reducible apply below_alloc | with_reducible refine below_set ?_ ?_ _ | (simp only [World.size_alloc, World.heap_drewN]; omega) | (simp; omega)))) H1.out).mono ?_
  rintro e w1 ⟨rfl, hb1⟩
  have k1 : Below w.heap.size w w1 := below_on (by repeat' (first | assumption | with_reducible exact Below.refl _ _ | with_reducible apply Below.drew | with_reducible apply below_drewN | with_reducible apply below_alloc | with_reducible refine below_set ?_ ?_ _ | (simp only [World.size_alloc, World.heap_drewN]; omega) | (simp; omega))) hb1
  have b1 := HB0.out.below hb1 HB0.out.lt
  have hl1 : w.heap.size < w1.heap.size := b1.lt
  have q1 : w1.cell? ⟨w.heap.size, 0, none⟩ = some (.slice A n c) := b1.at_ (i := 0) rfl
  have HB1 := hide b1
  clear b1 hb1 HB0
  go_upto_region 7 with (at_make; refine wpList_make_sl T_int rfl rfl _ _ rfl (by rfl) (by rfl) (by omega) (by simp only [maxLen]; omega) ?_; intro w2 own2 hb2)
  have k2 := below_on k1 hb2
  have b2 := HB1.out.below hb2 HB1.out.lt
  have hl2 : w.heap.size < w2.heap.size := b2.lt
  have q2 : w2.cell? ⟨w.heap.size, 0, none⟩ = some (.slice A n c) := b2.at_ (i := 0) rfl
  have HLT := hide (show w1.heap.size < w2.heap.size from (Own.blk own2 rfl).2)
  rw [ints_zero] at own2
  have HO2 := hide own2
  have HB2 := hide b2
  clear q1 b2 own2
  go_wp2_with (at_make; refine wpList_make_sl T_int rfl rfl _ _ rfl (by rfl) (by rfl) (by omega) (by simp only [maxLen]; omega) ?_; intro w3 own3 hb3)
  have k3 := below_on k2 hb3
  rw [ints_zero, ← idTo_zero] at own3
  have HO3 := hide own3
  have HB3 := hide hb3
  have z12 := hb2.size
  have HZ12 := hide z12
  clear own3 hb3 k3 hb2 z12 q2
  go_loopw [9, 31] (fun v9 vi wr => ∃ k : Nat, k ≤ n ∧ vi = .int .i64 k ∧ Own wr w2.heap.size 3 1 (some ⟨w2.heap.size, 0, none⟩) n n (ints (idTo n k)) ∧ Below w2.heap.size w2 wr) (fun _ vi _ => n - (intOf vi).toNat)
  case atStart => exact ⟨0, Nat.zero_le _, rfl, HO3.out, HB3.out⟩
  case round =>
    clear HO3 HB3
    obtain ⟨k, hk, rfl, own, hb⟩ := hrel
    by_cases hlt : k < n
    · have HN := hide (idTo_set hlt)
      have hc := own.cell (j := k) (u := .int .i64 (el (idTo n k) k)) (ints_at (el_at (by rw [idTo_len]; exact hlt)))
      have hf := own.free k
      have HO := hide own
      clear own
      go_wp2_with fail
      go_roundw
      case rel =>
        refine ⟨k + 1, by omega, by go_num, ?_, hb.setCell (p := ⟨w2.heap.size, k, none⟩) (Nat.le_refl _) _⟩
        rw [← HN.out, ints_set]
        exact HO.out.set k _
      case measure => simp [intOf]; omega
    · obtain rfl : n = k := by omega
      have HENV := hide (show SortEnv w2.heap.size w2 89 (.pointer (some ⟨w.heap.size, 0, none⟩)) (kap l) n from
        ⟨enters_of Try.func89 (by kernel_rfl) rfl, fun x y x0 x1 y0 y1 W hW => fairFn (h.on (below_on k2 hW)) ((HB2.out.below hW HB2.out.lt).at_ (i := 0) rfl) HW.out x0 x1 y0 y1⟩)
      have HRW := hide (show Rw w2 wr w2.heap.size w2.heap.size n n (idTo n n) from ⟨own, hb⟩)
      have HKR := hide (below_on k2 hb)
      clear own hb
      go_wp2_with fail
      refine (sortStable_any HENV.out n4 HRW.out (pm_id n) (stb_id _ n)).mono ?_
      rintro e w4 ⟨o, rfl, hrw, hpost⟩
      have HPM := hide (hpost.mv.pm (pm_id n))
      have HSR := hide hpost.srt
      have HR4 := hide hrw
      have k4 := below_on k2 hrw.bel
      have own4 := HO2.out.below hrw.bel (Nat.le_refl _)
      have HO4 := hide own4
      have HB4 := hide (HB2.out.below hrw.bel HB2.out.lt)
      clear hpost hrw own4 HO2 HB2 HKR HRW HENV
      go_wp2_with fail
      obtain ⟨wo, rfl⟩ : ∃ wo : World, wo = w4 := ⟨_, rfl⟩
      go_loopw [0, 44] (fun vr vi wr => ∃ k : Nat, k ≤ n ∧ vi = .int .i64 k ∧ vr = .int .i64 (fRoom l o n room k) ∧ Own wr w1.heap.size 3 1 (some ⟨w1.heap.size, 0, none⟩) n n (ints (fOut l o n room k)) ∧ Own wr w2.heap.size 3 1 (some ⟨w2.heap.size, 0, none⟩) n n (ints o) ∧ Blk wr w.heap.size 22 #[.slice A n c] ∧ Below w.heap.size w wr) (fun _ vi _ => n - (intOf vi).toNat)
      case atStart => exact ⟨0, Nat.zero_le _, rfl, rfl, HO4.out, HR4.out.own, HB4.out, k4⟩
      case round =>
        clear HO4 HR4 HB4 k4
        obtain ⟨k, hk, rfl, rfl, oo, ow, bb, kr⟩ := hrel
        have HOO := hide oo
        have HOW := hide ow
        have HBB := hide bb
        by_cases hlt : k < n
        · obtain ⟨v, hv, hve⟩ := HPM.out.rng k hlt
          obtain ⟨d, hd⟩ : ∃ d, n - k = d := ⟨_, rfl⟩
          have ed : (n : Int) - (k : Int) = (d : Int) := by omega
          have hd0 : 0 < d := by omega
          obtain ⟨ad, x, rfl, hbk, hx, hcx⟩ := (h.on kr).icell hv
          obtain ⟨x0, x1⟩ := HW.out.cnt v hv
          rw [el_of hx] at x0 x1
          obtain ⟨R0, R1⟩ := fRoom_bd HW.out HPM.out r0 k (by omega)
          have HST := hide (show fVal l o n room k = if fRoom l o n room k / (d : Int) < x then fRoom l o n room k / (d : Int) else x by rw [fVal, fStep, hve, kap_nat, el_of hx, ed])
          have HFR := hide (show fRoom l o n room (k + 1) = fRoom l o n room k - fVal l o n room k from rfl)
          have HFO := hide (show fOut l o n room (k + 1) = (fOut l o n room k).set v (fVal l o n room k) by rw [fOut, hve, Int.toNat_natCast])
          obtain ⟨R, hR⟩ : ∃ R, fRoom l o n room k = R := ⟨_, rfl⟩
          obtain ⟨V, hV⟩ : ∃ V, fVal l o n room k = V := ⟨_, rfl⟩
          rw [hR] at R0 R1 HST HFR
          rw [hV] at HST HFR HFO
          rw [hR]
          have HQ := hide (show (R.tdiv (d : Int)) = R / (d : Int) from Int.tdiv_eq_ediv_of_nonneg R0)
          have Q0 : 0 ≤ R / (d : Int) := Int.ediv_nonneg R0 (by omega)
          have Q1 : R / (d : Int) ≤ R := Int.ediv_le_self _ R0
          obtain ⟨Q, hQ⟩ : ∃ Q, R / (d : Int) = Q := ⟨_, rfl⟩
          rw [hQ] at HST HQ Q0 Q1
          have hoe : (ints o)[k]? = some (.int .i64 (v : Int)) := ints_at (by rw [← hve]; exact el_at (by rw [HPM.out.len]; exact hlt))
          have cox := ow.cell hoe
          have coo := oo.cell (j := v) (u := .int .i64 (el (fOut l o n room k) v)) (ints_at (el_at (by rw [fOut_len]; exact hv)))
          have cfo := oo.free v
          have q0 : wr.cell? ⟨w.heap.size, 0, none⟩ = some (.slice (some ad) n c) := bb.at_ (i := 0) rfl
          have eq2 := HQ.out
          have edw : IntKind.i64.wrap (d : Int) = (d : Int) := by rw [IntKind.wrap_i64]; omega
          have eqw : IntKind.i64.wrap Q = Q := by rw [IntKind.wrap_i64]; omega
          have v0 : (0 : Int) ≤ (v : Int) := by omega
          have v1 : (v : Int) < (n : Int) := by omega
          have dz : ¬ (d : Int) = 0 := by omega
          have dz2 : ¬ d = 0 := by omega
          have dz3 : ((d : Int) == 0) = false := by simp; omega
          have hl4 := bb.lt
          clear hx hd hR hV hQ oo ow bb hve hoe
          have hlt12 : w1.heap.size < w2.heap.size := HLT.out
          by_cases hq : Q < x
          · rw [if_pos hq] at HST
            have HV := hide HST.out
            obtain ⟨y, hy⟩ : ∃ y, el (fOut l o n room k) v = y := ⟨_, rfl⟩
            rw [hy] at coo
            clear hy HST
            have kS := below_set kr (p := ⟨w1.heap.size, v, none⟩) (by dsimp only; omega) (.int .i64 V)
            have oS := HOO.out.set v (.int .i64 V)
            rw [← ints_set, ← HFO.out] at oS
            have z12 := HZ12.out
            have owS := HOW.out.far (p := ⟨w1.heap.size, v, none⟩) (fun g hg e => by injection hg with hg; injection hg with hg; dsimp only at e; omega) (.int .i64 V)
            have bbS := HBB.out.far (p := ⟨w1.heap.size, v, none⟩) (by dsimp only; omega) (.int .i64 V)
            have KS := hide kS
            have OS := hide oS
            have OWS := hide owS
            have BBS := hide bbS
            clear kS oS owS bbS
            rw [HV.out] at KS OS OWS BBS HFR
            go_wp2_with fail
            go_region
            all_goals
              go_wp2_with fail
              go_roundw
              case rel => exact ⟨k + 1, by omega, by go_num, by rw [HFR.out], by first | exact OS.out | exact OS.out.drew, by first | exact OWS.out | exact OWS.out.drew, by first | exact BBS.out | exact BBS.out.drew, by first | exact KS.out | exact below_drewN KS.out 1⟩
              case measure => simp [intOf]; omega
          · rw [if_neg hq] at HST
            have HV := hide HST.out
            obtain ⟨y, hy⟩ : ∃ y, el (fOut l o n room k) v = y := ⟨_, rfl⟩
            rw [hy] at coo
            clear hy HST
            have kS := below_set kr (p := ⟨w1.heap.size, v, none⟩) (by dsimp only; omega) (.int .i64 V)
            have oS := HOO.out.set v (.int .i64 V)
            rw [← ints_set, ← HFO.out] at oS
            have z12 := HZ12.out
            have owS := HOW.out.far (p := ⟨w1.heap.size, v, none⟩) (fun g hg e => by injection hg with hg; injection hg with hg; dsimp only at e; omega) (.int .i64 V)
            have bbS := HBB.out.far (p := ⟨w1.heap.size, v, none⟩) (by dsimp only; omega) (.int .i64 V)
            have KS := hide kS
            have OS := hide oS
            have OWS := hide owS
            have BBS := hide bbS
            clear kS oS owS bbS
            rw [HV.out] at KS OS OWS BBS HFR
            go_wp2_with fail
            go_region
            all_goals
              go_wp2_with fail
              go_roundw
              case rel => exact ⟨k + 1, by omega, by go_num, by rw [HFR.out], by first | exact OS.out | exact OS.out.drew, by first | exact OWS.out | exact OWS.out.drew, by first | exact BBS.out | exact BBS.out.drew, by first | exact KS.out | exact below_drewN KS.out 1⟩
              case measure => simp [intOf]; omega
        · obtain rfl : n = k := by omega
          go_wp2_with fail
          go_ret2
          exact ⟨_, _, o, rfl, HOO.out.sl, HPM.out, HSR.out, kr⟩
end
end Go.Proofs.Ytkliebhpdcjdgaa
