/-
  The walk of the law SpanSays where the trace may be. Conditions: the slices read as lists.
-/
import Derived.Test.YtgejpinepkockaaLawSpan
import Derived.Outline
import Derived.Deep.QuietTactic
import Derived.BigQuiet
namespace Go.Proofs.Ytgejpinepkockaa
open Go.RowKit

/-- What has been gathered when k spans have been looked at. -/
structure Gath (w6 wr : World) (n k : Nat) (r : Int) (ps : List (Int × Int)) (Am Aa : Option Addr) (cm ca : Nat) : Prop where
  om : Own wr w6.heap.size 83 2 Am k cm (prs ((mended ps (mendTo ps n n)).take k))
  oa : Own wr w6.heap.size 4 1 Aa k ca (bools ((ps.map (keeps r)).take k))
  be : Below w6.heap.size w6 wr
def GathR (w6 : World) (n : Nat) (r : Int) (ps : List (Int × Int)) (vm va vi : Value) (wr : World) : Prop :=
  ∃ k Am Aa cm ca, k ≤ n ∧ vi = .int .i64 (k : Int) ∧ vm = .slice Am k cm ∧ va = .slice Aa k ca ∧ Gath w6 wr n k r ps Am Aa cm ca
theorem Gath.start {w6 : World} {n : Nat} {r : Int} {ps : List (Int × Int)} : GathR w6 n r ps (.slice none 0 0) (.slice none 0 0) (.int .i64 0) w6 :=
  ⟨0, none, none, 0, 0, Nat.zero_le _, rfl, rfl, rfl, ⟨by simpa [prs] using Own.nil _ _ _ _, by simpa [bools] using Own.nil _ _ _ _, Below.refl _ _⟩⟩
/-- The inner rounds: the span's level has become the least of what was looked at. -/
def Inn (w7 : World) (n k gs : Nat) (u l r : Int) (ps : List (Int × Int)) (b : Nat → Bool) (Am A3 : Option Addr) (cm c3 : Nat) (vj : Value) (wx : World) : Prop :=
  ∃ j : Nat, j ≤ n ∧ vj = .int .i64 j ∧ Blk wx gs 83 #[.int .i64 u, .int .i64 (leastTo ps b l j)] ∧ Own wx w7.heap.size 83 2 Am k cm (prs ((mended ps (mendTo ps n n)).take k)) ∧
    Own wx w7.heap.size 4 1 A3 (k + 1) c3 (bools ((ps.map (keeps r)).take (k + 1))) ∧ blockOf Am ≠ some gs ∧ blockOf A3 ≠ some gs ∧ Below w7.heap.size w7 wx
theorem leastTo_next {ps : List (Int × Int)} {b : Nat → Bool} {x : Int} {j : Nat} {u l : Int} (h : ps[j]? = some (u, l)) : leastTo ps b x (j + 1) = if b j = true ∧ l < leastTo ps b x j then l else leastTo ps b x j := by
  rw [leastTo, getD_of h]
theorem lev_all : ∀ l : Fin 21, (72057594037927936 : Int) / (72057594037927936 - lev l) = 2 ^ l.val ∧ lev l < 72057594037927936 := by decide +kernel
theorem lev_back (l : Nat) (h : l ≤ 20) : (72057594037927936 : Int) / (72057594037927936 - lev l) = 2 ^ l := (lev_all ⟨l, by omega⟩).1
theorem lev_lt (l : Nat) (h : l ≤ 20) : lev l < 72057594037927936 := (lev_all ⟨l, by omega⟩).2
theorem take_next1 {α : Type} {l : List α} {k : Nat} {x : α} (h : l[k]? = some x) : l.take (k + 1) = l.take k ++ [x] := by rw [List.take_add_one, h]; rfl
section
variable {A B : Option Addr} {n c m d : Nat} {ps : List (Int × Int)} {bs : List Bool} {w : World} {r : Int}
set_option maxRecDepth 100000 in
set_option maxHeartbeats 6400000 in
theorem law_span_good (h : Sp w A n c ps) (hk : Sb w B m d bs) (h0 : spanErr n ps = 0) :
    Calls Try.prog 12 #[.slice A n c, .int .i64 r, .slice B m d] w fun e w' => e = .returned (.bool true) ∧ Below w.heap.size w w' := by
  obtain ⟨g1, g2⟩ := spanErr_zero h0
  have hm := h.len_max
  have hm2 := hk.len_max
  have HE := hide h0
  have HOK := hide g2
  have HL := hide h.plen
  have HUP := hide (ups_of h.plen g2)
  clear h0 g2
  go_enter Try.func12, Try.ntmps12
  go_wp2_with fail
  refine (kept_u (r := r) h HE.out).mono ?_
  rintro e w1 ⟨AK, nK, cK, EK, rfl, hKQ, hb1⟩
  have HKQ := hide hKQ
  clear hKQ
  go_wp2_with fail
  refine (whole_u (h.on hb1) (hk.on hb1) HE.out).mono ?_
  rintro e w2 ⟨bW, EW, rfl, hWQ, hb2⟩
  have HWQ := hide hWQ
  clear hWQ
  have k2 := below_on hb1 hb2
  go_wp2_with fail
  refine (mend_ok (h.on k2) HE.out).mono ?_
  rintro e w3 ⟨AM, cM, rfl, oM, hb3⟩
  have k3 := below_on k2 hb3
  have sM := oM.sl
  clear oM
  go_wp2_with fail
  refine (count_u (h.on k3) (hk.on k3) HE.out).mono ?_
  rintro e w4 ⟨xC, EC, rfl, hCQ, hb4⟩
  have HCQ := hide hCQ
  clear hCQ
  have k4 := below_on k3 hb4
  go_wp2_with fail
  refine (spans_is (h.on k4) HE.out).mono ?_
  rintro e w5 ⟨rfl, hb5⟩
  have k5 := below_on k4 hb5
  go_wp2_with fail
  refine (spanCheck_is (h.on k5) HE.out).mono ?_
  rintro e w6 ⟨rfl, hb6⟩
  have k6 := below_on k5 hb6
  go_wp2_with fail
  refine (spanCheck_is (ps := [(-2, 0)]) (Sl.blk 2 1 (e := 83) (by simp only [heap_alloc_get, World.size_alloc]; simp [prs]) rfl (by simp [maxLen])) span_one).mono ?_
  rintro e w7 ⟨rfl, hb7⟩
  have b67 : Below w6.heap.size w6 w7 := below_on (by repeat' (first | assumption | with_reducible exact Below.refl _ _ | with_reducible apply Below.drew | with_reducible apply below_drewN | with_reducible apply below_alloc | with_reducible refine below_set ?_ ?_ _ | (simp only [World.size_alloc, World.heap_drewN]; omega) | (simp; omega))) hb7
  have k7 : Below w.heap.size w w7 := below_on k6 b67
  have b17 : Below w1.heap.size w1 w7 := below_on (below_on (below_on (below_on (below_on hb2 hb3) hb4) hb5) hb6) b67
  have b37 : Below w3.heap.size w3 w7 := below_on (below_on (below_on hb4 hb5) hb6) b67
  clear hb1 hb2 hb3 hb4 hb5 hb6 k2 k3 k4 k5 k6 b67 hb7
  have h7 := h.on k7
  have z7 := k7.size
  go_wp2_with fail
  go_loopw [16, 17, 100] (fun vm va vi wr => GathR w7 n r ps vm va vi wr) (fun _ _ i _ => n - (intOf i).toNat)
  case atStart => exact Gath.start
  case round =>
    obtain ⟨k, Am, Aa, cm, ca, hkn, rfl, rfl, rfl, hG⟩ := hrel
    have hbr := hG.be
    by_cases hlt : k < n
    · obtain ⟨ad, ⟨u, l⟩, rfl, hbk, hp, hc0, hc1⟩ := (h7.on hbr).pcell hlt
      obtain ⟨a1, a2, a3, a4⟩ := spanOk_true HOK.out hlt hp
      obtain ⟨ln, rfl⟩ := Int.eq_ofNat_of_zero_le a3
      have l2 : ln ≤ 20 := by omega
      obtain ⟨p1, p2⟩ := div_bounds (l := ln)
      have HP := hide hp
      have HA := hide (take_next1 (l := ps.map (keeps r)) (k := k) (x := keeps r (u, (ln : Int))) (by rw [List.getElem?_map, hp]; rfl))
      have hkl : (ps.map (keeps r)).length = n := by rw [List.length_map]; exact HL.out
      dsimp only at hc0 hc1
      clear hp
      have HLV := hide (level_any ln (by omega))
      go_wp2_with (first | (go_at_call 62; refine (HLV.out _).mono ?_; rintro e w' ⟨rfl, rfl⟩) | (at_builtin; refine wpList_append_sl T_bool rfl _ _ rfl (by rfl) (by rfl) ((hG.oa.alloc _).alloc _) (Sl.lit (at_new3 _ _ _)) (bools_one [decide (lev ln ≤ r)]) (by simp only [maxLen]; omega) (by omega) (by have := hbr.size; simp; omega) ?_; intro A3 c3 w3 ap))
      have zr := hbr.size
      have pbs := (Blk.new wr 83 #[.int .i64 u, .int .i64 (ln : Int)]).alloc (.cells #[.bool (decide (lev ln ≤ r))] 4)
      have oaw := (hG.oa.alloc (.cells #[.int .i64 u, .int .i64 (ln : Int)] 83)).alloc (.cells #[.bool (decide (lev ln ≤ r))] 4)
      have omw := (hG.om.alloc (.cells #[.int .i64 u, .int .i64 (ln : Int)] 83)).alloc (.cells #[.bool (decide (lev ln ≤ r))] 4)
      have pb3 := pbs.grown ap.grow (oaw.apart_blk pbs (by decide))
      have om3 := omw.grown_apart ap (oaw.apart_type omw (by decide))
      have oa3 := ap.own
      have na3 := oa3.apart_blk pb3 (by decide)
      have nm3 : blockOf Am ≠ some wr.heap.size := fun e => by have := (hG.om.blk e).2; omega
      have hb3 : Below w7.heap.size w7 w3 := ((hbr.alloc zr _).alloc (by simp; omega) _).trans ap.below
      rw [show bools ((ps.map (keeps r)).take k) ++ [Value.bool (decide (lev ln ≤ r))] = bools ((ps.map (keeps r)).take (k + 1)) from by rw [HA.out, bools_append]; simp [bools, keeps]] at oa3
      obtain ⟨b, hpart⟩ := part_is ps k
      have HB := hide hpart
      obtain ⟨gs, hgs⟩ : ∃ gs, wr.heap.size = gs := ⟨_, rfl⟩
      have hgs7 : w7.heap.size ≤ gs := by omega
      rw [hgs] at pb3 na3 nm3 ⊢
      have inn0 : Inn w7 n k gs u ln r ps b Am A3 cm c3 (.int .i64 0) w3 := ⟨0, Nat.zero_le _, rfl, pb3, om3, oa3, nm3, na3, hb3⟩
      clear pbs oaw omw pb3 om3 oa3 na3 nm3 hb3 ap hgs hpart hc0 hc1 hG hbr
      go_loopw [115] (fun vj wx => Inn w7 n k gs u ln r ps b Am A3 cm c3 vj wx) (fun j _ => n - (intOf j).toNat)
      case atStart => exact inn0
      case round =>
        clear inn0
        obtain ⟨j, hjn, rfl, pbx, omx, oax, nmx, nax, hbx⟩ := hrel
        have q0 := pbx.at_ (i := 0) rfl
        have q1 := pbx.at_ (i := 1) rfl
        have q2 := pbx.free 1
        have hx := h7.on hbx
        by_cases hjl : j < n
        · obtain ⟨ad', ⟨u2, l2⟩, eA, hbk2, hp2, hd0, hd1⟩ := hx.pcell hjl
          injection eA with eA
          subst eA
          have HN := hide (leastTo_next (b := b) (x := (ln : Int)) hp2)
          dsimp only at hd0 hd1
          clear hp2
          obtain ⟨x, hxe⟩ : ∃ x, leastTo ps b (ln : Int) j = x := ⟨_, rfl⟩
          rw [hxe] at q1 HN pbx
          clear hxe
          have HU := hide (fun q => under_q (w := wr.drewN q) (hx.drewN q) HOK.out j k hjl (b j) (HB.out j))
          cases hbj : b j
          · have HBJ := hide hbj
            rw [hbj] at HU
            have HN2 := hide (show leastTo ps b (ln : Int) (j + 1) = x by rw [HN.out, HBJ.out]; simp)
            clear hbj
            go_wp2_with fail
            go_quiet ((go_at_call 63; exact Calls.quiet_of_same (HU.out _)))
            go_wp2_with fail
            go_roundw
            case rel => exact ⟨j + 1, by omega, by go_num, by rw [HN2.out]; exact pbx.drewN _, omx.drewN _, oax.drewN _, nmx, nax, below_drewN hbx _⟩
            case measure => simp [intOf]; omega
          · have HBJ := hide hbj
            rw [hbj] at HU
            by_cases hlx : l2 < x
            · have HN2 := hide (show leastTo ps b (ln : Int) (j + 1) = l2 by rw [HN.out, if_pos ⟨HBJ.out, hlx⟩])
              clear hbj
              go_wp2_with fail
              go_quiet ((go_at_call 63; exact Calls.quiet_of_same (HU.out _)))
              go_wp2_with fail
              go_roundw
              case rel =>
                refine ⟨j + 1, by omega, by go_num, ?_, ?_, ?_, nmx, nax, below_set (below_drewN hbx _) hgs7 _⟩
                · rw [HN2.out]
                  have hs : ∀ q, Blk ((wr.drewN q).setCell ⟨gs, 1, none⟩ (.int .i64 l2)) gs 83 #[.int .i64 u, .int .i64 l2] := fun q => by simpa using (pbx.drewN q).set 1 (.int .i64 l2)
                  exact hs _
                · exact (omx.drewN _).far (fun g hA e => nmx (by rw [hA]; exact congrArg some e)) _
                · exact (oax.drewN _).far (fun g hA e => nax (by rw [hA]; exact congrArg some e)) _
              case measure => simp [intOf]; omega
            · have HN2 := hide (show leastTo ps b (ln : Int) (j + 1) = x by rw [HN.out, if_neg (fun h => hlx h.2)])
              clear hbj
              go_wp2_with fail
              go_quiet ((go_at_call 63; exact Calls.quiet_of_same (HU.out _)))
              go_wp2_with fail
              go_roundw
              case rel => exact ⟨j + 1, by omega, by go_num, by rw [HN2.out]; exact pbx.drewN _, omx.drewN _, oax.drewN _, nmx, nax, below_drewN hbx _⟩
              case measure => simp [intOf]; omega
        · obtain rfl : j = n := by omega
          have zx := hbx.size
          obtain ⟨x, hxe⟩ : ∃ x, leastTo ps b (ln : Int) j = x := ⟨_, rfl⟩
          rw [hxe] at q1 pbx
          have HM := hide (take_next1 (x := (u, x)) (show (mended ps (mendTo ps j j))[k]? = some (u, x) from mended_at HP.out (by rw [← hxe]; exact mend_least HL.out HUP.out HP.out HB.out)))
          clear hxe
          go_wp2_with (at_builtin; refine wpList_append_sl T_span rfl _ _ rfl (by rfl) (by rfl) (omx.alloc _) (Sl.blk 2 1 (cs := prs [(u, x)]) (e := 83) (at_new _ _) rfl (by simp [maxLen])) (prs_one [(u, x)]) (by simp only [maxLen]; omega) (by omega) (by simp; omega) ?_; intro A4 c4 w4 ap)
          have om4 := ap.own
          have oax2 := oax.alloc (.cells (prs [(u, x)]).toArray 83)
          have oa4 := oax2.grown_apart ap ((omx.alloc _).apart_type oax2 (by decide))
          have hb4 : Below w7.heap.size w7 w4 := (hbx.alloc zx _).trans ap.below
          rw [← prs_append, ← HM.out] at om4
          clear ap oax2
          go_wp2_with fail
          go_roundw
          case rel => exact ⟨k + 1, A4, A3, c4, c3, by omega, by go_num, rfl, rfl, ⟨om4, oa4, hb4⟩⟩
          case measure => simp [intOf]; omega
    · obtain rfl : n = k := by omega
      have om := hG.om
      have oa := hG.oa
      rw [List.take_of_length_le (by rw [mended_len (by rw [mendTo_len]), HL.out]; exact Nat.le_refl _)] at om
      rw [List.take_of_length_le (by rw [List.length_map, HL.out]; exact Nat.le_refl _)] at oa
      go_wp2_with fail
      refine (equalP_yes _ _ _ _ _ _ _ (sM.on (below_on b37 hbr)) om.sl).mono ?_
      rintro e w8 ⟨rfl, q8, rfl⟩
      obtain ⟨w8, hw8⟩ : ∃ w8, wr.drewN q8 = w8 := ⟨_, rfl⟩
      have k8 : Below w.heap.size w w8 := by rw [← hw8]; exact below_drewN (below_on k7 hbr) _
      have b78 : Below w7.heap.size w7 w8 := by rw [← hw8]; exact below_drewN hbr _
      have oa8 : Own w8 w7.heap.size 4 1 Aa n ca (bools (ps.map (keeps r))) := by rw [← hw8]; exact oa
      rw [hw8]
      clear hw8 om oa hG hbr
      by_cases hmn : m = n
      · subst hmn
        rcases HWQ.out with ⟨_, e1, e2⟩ | ⟨h1, _⟩
        case inr => exact absurd rfl h1
        rcases HCQ.out with ⟨_, e3, e4⟩ | ⟨h1, _⟩
        case inr => exact absurd rfl h1
        have HBW := hide e2
        have HXC := hide e4
        subst e1
        subst e3
        clear e2 e4 HWQ HCQ
        by_cases hr : 0 ≤ r ∧ r ≤ 72057594037927935
        case' pos =>
          have dr := inR_yes hr
          rcases HKQ.out with ⟨_, hE, hn, hsb⟩ | ⟨h1, _⟩
          case inr => exact absurd hr h1
          subst hE
          have hn' := hn.symm
          clear hn
          subst hn'
          go_wp2_with fail
          refine (draw_any r _).mono ?_
          rintro e w' ⟨rfl, rfl⟩
          rw [dr]
          go_wp2_with fail
          refine (equalB_yes _ _ _ _ _ _ _ (hsb.on (below_on b17 b78)) oa8.sl).mono ?_
          rintro e w9 ⟨rfl, q9, rfl⟩
          have k9 : Below w.heap.size w (w8.drewN q9) := below_drewN k8 _
          obtain ⟨w9, hw9⟩ : ∃ w9, w8.drewN q9 = w9 := ⟨_, rfl⟩
          rw [hw9] at k9 ⊢
          clear hw9 hsb oa8 b78 dr hr
          go_wp2_with fail
        case' neg =>
          have dr := inR_no hr
          rcases HKQ.out with ⟨h1, _⟩ | ⟨_, hE, hn⟩
          case inl => exact absurd h1 hr
          subst hE
          subst hn
          go_wp2_with fail
          refine (draw_any r _).mono ?_
          rintro e w' ⟨rfl, rfl⟩
          rw [dr]
          obtain ⟨w9, hw9⟩ : ∃ w9, w8 = w9 := ⟨_, rfl⟩
          have k9 := k8
          rw [hw9] at k9 ⊢
          clear hw9 oa8 b78 dr hr k8
          go_wp2_with fail
        all_goals
          try simp only [Bool.not_true, Bool.not_false]
          go_loopw [21, 22, 191] (fun vw vs vi wr => ∃ k : Nat, k ≤ m ∧ vi = .int .i64 k ∧ vw = .bool (okTo (wholeOk ps bs) k) ∧ vs = .int .i64 (countTo ps bs k) ∧ Below w.heap.size w wr) (fun _ _ i _ => m - (intOf i).toNat)
          case atStart => exact ⟨0, Nat.zero_le _, rfl, rfl, rfl, k9⟩
          case round =>
            obtain ⟨k, hkn, rfl, rfl, rfl, hb⟩ := hrel
            obtain ⟨o1, o2⟩ := countTo_bound (bs := bs) HL.out HOK.out k hkn
            obtain ⟨W, hW⟩ : ∃ W, okTo (wholeOk ps bs) k = W := ⟨_, rfl⟩
            have HW := hide hW
            rw [hW]
            clear hW
            by_cases hlt : k < m
            · obtain ⟨ad, ⟨u, l⟩, rfl, hbk, hp, hc0, hc1⟩ := (h.on hb).pcell hlt
              obtain ⟨ae, b, rfl, hbe, hb0, hcb⟩ := (hk.on hb).bcell hlt
              have hcbA := cell_past hbe hcb
              obtain ⟨a1, a2, a3, a4⟩ := spanOk_true HOK.out hlt hp
              obtain ⟨ln, rfl⟩ := Int.eq_ofNat_of_zero_le a3
              obtain ⟨p1, p2⟩ := pow_bounds (show ln ≤ 20 by omega)
              obtain ⟨p3, p4⟩ := div_bounds (l := ln)
              have LV := lev_back ln (by omega)
              have HLV := hide (level_any ln (by omega))
              obtain ⟨lv, hlv⟩ : ∃ lv, lev ln = lv := ⟨_, rfl⟩
              have q0 : 0 ≤ lv := by rw [← hlv]; unfold lev; omega
              have q1 : lv < 72057594037927936 := by rw [← hlv]; exact lev_lt ln (by omega)
              rw [hlv] at LV HLV
              clear hlv p3 p4
              have HC := hide (show countTo ps bs (k + 1) = if b = true then countTo ps bs k + 2 ^ ln else countTo ps bs k by rw [countTo, getD_of hb0, getD_of hp, Int.toNat_natCast])
              have HO := hide (show okTo (wholeOk ps bs) (k + 1) = (W && !(b && decide (0 ≤ u) && !bs.getD u.toNat false)) by rw [okTo, HW.out, wholeOk_is hp hb0])
              dsimp only at hc0 hc1
              clear hp hb0
              obtain ⟨o, ho⟩ : ∃ o, countTo ps bs k = o := ⟨_, rfl⟩
              rw [ho] at o1 o2 HC ⊢
              clear ho
              have HLQ := hide LV
              clear LV
              cases b
              · have HN := hide (show countTo ps bs (k + 1) = o by rw [HC.out]; rfl)
                have HM := hide (show okTo (wholeOk ps bs) (k + 1) = W by rw [HO.out]; simp)
                go_wp2_with fail
                go_roundw
                case rel => exact ⟨k + 1, by omega, by go_num, by rw [HM.out], by rw [HN.out], by repeat' (first | assumption | with_reducible exact Below.refl _ _ | with_reducible apply Below.drew | with_reducible apply below_drewN | with_reducible apply below_alloc | with_reducible refine below_set ?_ ?_ _ | (simp only [World.size_alloc, World.heap_drewN]; omega) | (simp; omega))⟩
                case measure => simp [intOf]; omega
              · have HN := hide (show countTo ps bs (k + 1) = o + 2 ^ ln by rw [HC.out]; rfl)
                cases W
                · have HM := hide (show okTo (wholeOk ps bs) (k + 1) = false by rw [HO.out]; rfl)
                  have LV := HLQ.out
                  go_wp2_with (first | (go_at_call 62; refine (HLV.out _).mono ?_; rintro e w' ⟨rfl, rfl⟩))
                  go_roundw
                  case rel => exact ⟨k + 1, by omega, by go_num, by rw [HM.out], by rw [HN.out], by repeat' (first | assumption | with_reducible exact Below.refl _ _ | with_reducible apply Below.drew | with_reducible apply below_drewN | with_reducible apply below_alloc | with_reducible refine below_set ?_ ?_ _ | (simp only [World.size_alloc, World.heap_drewN]; omega) | (simp; omega))⟩
                  case measure => simp [intOf]; omega
                · by_cases u0 : 0 ≤ u
                  · obtain ⟨un, rfl⟩ := Int.eq_ofNat_of_zero_le u0
                    obtain ⟨af, b2, eaf, hbf, hb2, hcb2⟩ := (hk.on hb).bcell (j := un) (by omega)
                    injection eaf with eaf
                    subst eaf
                    have hcbB := cell_past hbf hcb2
                    have HM := hide (show okTo (wholeOk ps bs) (k + 1) = b2 by rw [HO.out, Int.toNat_natCast, getD_of hb2]; simp)
                    have q5 : (un : Int) < (m : Int) := by omega
                    have LV := HLQ.out
                    clear hb2
                    go_wp2_with (first | (go_at_call 62; refine (HLV.out _).mono ?_; rintro e w' ⟨rfl, rfl⟩))
                    go_roundw
                    case rel => exact ⟨k + 1, by omega, by go_num, by rw [HM.out, decide_eq_false (show ¬ (un : Int) < 0 by omega)]; rfl, by rw [HN.out], by repeat' (first | assumption | with_reducible exact Below.refl _ _ | with_reducible apply Below.drew | with_reducible apply below_drewN | with_reducible apply below_alloc | with_reducible refine below_set ?_ ?_ _ | (simp only [World.size_alloc, World.heap_drewN]; omega) | (simp; omega))⟩
                    case measure => simp [intOf]; omega
                  · have HM := hide (show okTo (wholeOk ps bs) (k + 1) = true by rw [HO.out, decide_eq_false u0]; rfl)
                    have u1 : u < 0 := by omega
                    have LV := HLQ.out
                    clear u0
                    go_wp2_with (first | (go_at_call 62; refine (HLV.out _).mono ?_; rintro e w' ⟨rfl, rfl⟩))
                    go_roundw
                    case rel => exact ⟨k + 1, by omega, by go_num, by rw [HM.out], by rw [HN.out], by repeat' (first | assumption | with_reducible exact Below.refl _ _ | with_reducible apply Below.drew | with_reducible apply below_drewN | with_reducible apply below_alloc | with_reducible refine below_set ?_ ?_ _ | (simp only [World.size_alloc, World.heap_drewN]; omega) | (simp; omega))⟩
                    case measure => simp [intOf]; omega
            · obtain rfl : k = m := by omega
              have e1 : bW = W := HBW.out.trans HW.out
              have e2 := HXC.out
              subst e1
              subst e2
              clear HBW
              cases bW
              all_goals
                go_wp2_with fail
                go_ret
                exact ⟨by simp, hb⟩
      · rcases HWQ.out with ⟨h1, _⟩ | ⟨_, e1, e2⟩
        case inl => exact absurd h1 hmn
        rcases HCQ.out with ⟨h1, _⟩ | ⟨_, e3, e4⟩
        case inl => exact absurd h1 hmn
        subst e1; subst e2; subst e3; subst e4
        have tmn : ((m : Int) != (n : Int)) = true := by simp; omega
        clear HWQ HCQ
        by_cases hr : 0 ≤ r ∧ r ≤ 72057594037927935
        · have dr := inR_yes hr
          rcases HKQ.out with ⟨_, hE, hn, hsb⟩ | ⟨h1, _⟩
          case inr => exact absurd hr h1
          subst hE
          have hn' := hn.symm
          clear hn
          subst hn'
          go_wp2_with fail
          refine (draw_any r _).mono ?_
          rintro e w' ⟨rfl, rfl⟩
          rw [dr]
          go_wp2_with fail
          refine (equalB_yes _ _ _ _ _ _ _ (hsb.on (below_on b17 b78)) oa8.sl).mono ?_
          rintro e w9 ⟨rfl, q9, rfl⟩
          have k9 : Below w.heap.size w (w8.drewN q9) := below_drewN k8 _
          obtain ⟨w9, hw9⟩ : ∃ w9, w8.drewN q9 = w9 := ⟨_, rfl⟩
          rw [hw9] at k9 ⊢
          clear hw9 hsb oa8 b78 dr hr
          go_wp2_with fail
          go_ret
          exact ⟨rfl, k9⟩
        · have dr := inR_no hr
          rcases HKQ.out with ⟨h1, _⟩ | ⟨_, hE, hn⟩
          case inl => exact absurd h1 hr
          subst hE
          subst hn
          go_wp2_with fail
          refine (draw_any r _).mono ?_
          rintro e w' ⟨rfl, rfl⟩
          rw [dr]
          obtain ⟨w9, hw9⟩ : ∃ w9, w8 = w9 := ⟨_, rfl⟩
          have k9 := k8
          rw [hw9] at k9 ⊢
          clear hw9 oa8 b78 dr hr k8
          go_wp2_with fail
          go_ret
          exact ⟨rfl, k9⟩
end
end Go.Proofs.Ytgejpinepkockaa
