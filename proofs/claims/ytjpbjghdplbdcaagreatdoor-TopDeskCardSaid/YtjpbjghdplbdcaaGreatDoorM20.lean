/- Proves the parts of the claim that its last text joins: Set2. Conditions: those that each theorem names. -/
import Derived.Test.YtjpbjghdplbdcaaGreatDoorM17
section
namespace Go.Proofs.YtjpbjghdplbdcaaGreatDoor
open Go.RowKit Go.Shelf
section
variable {A : Option Addr} {n c : Nat} {ps : List Pr} {w : World}
set_option maxRecDepth 20000 in
set_option maxHeartbeats 3200000 in
theorem sset_ok (h : Sp2 w A n c ps) (hf : Fit ps) (hE : prErr n ps = 0) {a b : Nat} {x y : Bool} (ha : isDraw a = true) (hb : isDraw b = true) {E : Int} (hS : setE ps (a, b, x, y) = E) :
    Calls Tryz.prog 110 #[.slice A n c, .agg #[.int .i64 a, .int .i64 b, .bool x, .bool y]] w (SetRet w (setL ps (a, b, x, y) E) E) := by
  have n40 := n_of_ok hE
  have hlen := hide h.slen
  have b0 := Blk.new w 111 (mkV (a, b, x, y)).toArray
  have hb0 : Below w.heap.size w (w.alloc (.cells (mkV (a, b, x, y)).toArray 111)) := by repeat' (first | assumption | with_reducible exact Below.refl _ _ | with_reducible apply Below.drew | with_reducible apply below_drewN | with_reducible apply below_alloc | with_reducible refine below_set ?_ ?_ _ | (simp only [World.size_alloc, World.heap_drewN]; omega) | (simp; omega))
  have HC := hide (scheck_any (h.on hb0) hf)
  rw [hE] at HC
  have HA := hide ha
  have HB := hide hb
  have HS := hide hS
  have CT := hide (th_any a ha)
  have CV := hide (rv_any b hb)
  obtain ⟨ST, hST⟩ : ∃ ST, tx (thS (digs 14 a)) = ST := ⟨_, rfl⟩
  obtain ⟨SV, hSV⟩ : ∃ SV, tx (digs 14 b) = SV := ⟨_, rfl⟩
  have HH := hide (show heads ((a : Int), (b : Int), x, y) = (bif x then [(thName, ST)] else []) ++ (bif y then [(rvName, SV)] else []) by rw [← hST, ← hSV]; unfold heads; simp [tx])
  rw [hST] at CT
  rw [hSV] at CV
  clear hE ha hb hS hST hSV
  go_enter Tryz.func110, Tryz.ntmps110
  go_wp2_with fail
  refine HC.out.mono ?_
  rintro e w1 ⟨rfl, bel⟩
  have b1 := b0.below bel b0.lt
  have hb1 := below_on hb0 bel
  have m0 := b1.at_ (i := 0) (u := .int .i64 a) rfl
  have m1 := b1.at_ (i := 1) (u := .int .i64 b) rfl
  have m2 := b1.at_ (i := 2) (u := .bool x) rfl
  have m3 := b1.at_ (i := 3) (u := .bool y) rfl
  have hgB : w.heap.size < w1.heap.size := b1.lt
  have hbw : Below w1.heap.size w1 w1 := Below.refl _ _
  clear b0 hb0 bel
  go_wp2_with fail
  refine (hnum_is HA.out _).mono ?_
  rintro e w2 ⟨rfl, rfl⟩
  go_wp2_with fail
  refine (hnum_is HB.out _).mono ?_
  rintro e w2 ⟨rfl, rfl⟩
  have HD := hide (show (drawOk (((a : Int), (b : Int), x, y) : Mk).1 && drawOk (((a : Int), (b : Int), x, y) : Mk).2.1) = true by show (isDraw a && isDraw b) = true; rw [HA.out, HB.out]; rfl)
  have HD := hide (show (drawOk (((a : Int), (b : Int), x, y) : Mk).1 && drawOk (((a : Int), (b : Int), x, y) : Mk).2.1) = true by show (isDraw a && isDraw b) = true; rw [HA.out, HB.out]; rfl)
  have HD := hide (show (drawOk (((a : Int), (b : Int), x, y) : Mk).1 && drawOk (((a : Int), (b : Int), x, y) : Mk).2.1) = true by show (isDraw a && isDraw b) = true; rw [HA.out, HB.out]; rfl)
  cases x <;> cases y
  case false.false =>
    clear CT CV HA HB
    go_wp2_with fail
    go_loopw [7, 57] (fun v i wr => ∃ (k : Nat) (A' : Option Addr) (c' m : Nat), k ≤ n ∧ i = .int .i64 k ∧ (([] : List Pr) ++ rest (ps.take k)).length = m ∧ v = .slice A' m c' ∧ Own wr w1.heap.size 171 2 A' m c' (sps (([] : List Pr) ++ rest (ps.take k))) ∧ Below w1.heap.size w1 wr) (fun _ i _ => n - (intOf i).toNat)
    case atStart => exact ⟨0, _, _, 0, by omega, rfl, rfl, rfl, Own.nil _ _ _ _, hbw⟩
    case round =>
      obtain ⟨k, A', c', m, hk, rfl, hmm, rfl, o1, hbr⟩ := hrel
      have hmk : m ≤ k + 2 := by
        have := rest_take_len ps k
        rw [List.length_append] at hmm
        simp only [List.length_cons, List.length_nil] at hmm
        omega
      have szr : w1.heap.size ≤ wr.heap.size := Nat.le_trans (by omega) hbr.size
      have hbw2 : Below w.heap.size w wr := below_on hb1 (hbr.mono (by omega))
      have HM := hide hmm
      clear hmm
      by_cases hlt : k < n
      · obtain ⟨ad, p, rfl, hbk, hp, hc0, hc1⟩ := (h.below hbw2).scell hlt
        have bp := Blk.new wr 171 #[.string p.1, .string p.2]
        have hba : Below w1.heap.size w1 (wr.alloc (.cells #[.string p.1, .string p.2] 171)) := hbr.alloc (by omega) _
        have q0 := bp.at_ (i := 0) (u := .string p.1) rfl
        have q1 := bp.at_ (i := 1) (u := .string p.2) rfl
        by_cases eth : p.1 = thName
        · have t1 : (p.1.toList == [116, 104]) = true := is_text eth
          have t2 : (p.1.toList == [114, 118]) = false := not_text (fun e => names_differ (eth.symm.trans e))
          have HR := hide (rest_skip hp (isMark_th eth))
          clear hp eth
          have o2 := o1.alloc (.cells #[.string p.1, .string p.2] 171)
          clear o1
          go_wp2_with fail
          exact ⟨⟨k + 1, A', c', m, by omega, by go_num, by rw [HR.out]; exact HM.out, rfl, by rw [HR.out]; exact o2, hba⟩, by simp [intOf]; omega⟩
        · by_cases erv : p.1 = rvName
          · have t1 : (p.1.toList == [116, 104]) = false := not_text eth
            have t2 : (p.1.toList == [114, 118]) = true := is_text erv
            have HR := hide (rest_skip hp (isMark_rv erv))
            clear hp eth erv
            have o2 := o1.alloc (.cells #[.string p.1, .string p.2] 171)
            clear o1
            go_wp2_with fail
            exact ⟨⟨k + 1, A', c', m, by omega, by go_num, by rw [HR.out]; exact HM.out, rfl, by rw [HR.out]; exact o2, hba⟩, by simp [intOf]; omega⟩
          · have t1 : (p.1.toList == [116, 104]) = false := not_text eth
            have t2 : (p.1.toList == [114, 118]) = false := not_text erv
            have HR := hide (rest_keep hp (isMark_no eth erv))
            clear hp eth erv
            go_wp2_with (at_builtin; refine wpList_append_sl T_pair rfl _ _ rfl (by rfl) (by rfl) ((o1.alloc _).alloc _) (Sl.blk 2 1 (cs := sps [p]) (e := 171) (at_new3 _ _ _) rfl (by simp [maxLen])) (sps_one [p]) (by simp only [maxLen]; omega) (by omega) (by simp <;> omega) ?_; intro A3 c3 w3 ap)
            have o3 := ap.own
            rw [← sps_append, List.append_assoc, ← HR.out] at o3
            have b3 : Below w1.heap.size w1 w3 := (hba.alloc (by simp <;> omega) _).trans ap.below
            clear ap o1
            go_wp2_with fail
            exact ⟨⟨k + 1, A3, c3, m + 1, by omega, by go_num, by rw [HR.out, ← List.append_assoc, List.length_append, HM.out]; rfl, rfl, o3, b3⟩, by simp [intOf]; omega⟩
      · obtain rfl : k = n := by omega
        have HR := hide (rest_all hlen.out)
        have HAll : Hid (setAll ps ((a : Int), (b : Int), false, false) = ([] : List Pr) ++ rest (ps.take k)) := by unfold setAll; rw [HH.out, HR.out]; rfl
        by_cases h40 : 40 < m
        · have HE := hide (show E = 2 by rw [← HS.out]; exact setE_large HD.out (by rw [HAll.out, HM.out]; exact h40))
          clear o1
          go_wp2_with fail
          rw [HE.out]
          go_ret2
          exact setRet_nil hbw2
        · have HE := hide (show E = 0 by rw [← HS.out]; exact setE_ok HD.out (by rw [HAll.out, HM.out]; exact h40))
          have s1 := o1.sl
          clear o1
          go_wp2_with fail
          rw [HE.out]
          go_ret2
          exact ⟨A', m, c', rfl, by rw [show setL ps ((a : Int), (b : Int), false, false) 0 = _ from if_pos rfl, HAll.out]; exact s1, hbw2⟩
  case false.true =>
    go_wp2_with fail
    refine (CV.out _).mono ?_
    rintro e w2 ⟨rfl, qv, rfl⟩
    go_wp2_with (at_builtin; refine wpList_append_sl T_pair rfl _ _ rfl (by rfl) (by rfl) ((Own.nil _ w1.heap.size _ 2)) (Sl.blk 2 1 (cs := sps [(rvName, SV)]) (e := 171) (at_new _ _) rfl (by simp [maxLen])) (sps_one [(rvName, SV)]) (by simp only [maxLen]; omega) (by omega) (by simp <;> omega) ?_; intro Av cv wv ap; have bwv : Below w1.heap.size w1 wv := ((below_drewN hbw qv).alloc (by simp <;> omega) _).trans ap.below; have bv := b1.below bwv hgB; have mv_1 := bv.at_ (i := 1) (u := .int .i64 b) rfl; have mv_3 := bv.at_ (i := 3) (u := .bool true) rfl)
    have owv := ap.own
    rw [List.nil_append] at owv
    have szv : w1.heap.size ≤ wv.heap.size := Nat.le_trans (by omega) bwv.size
    clear ap
    clear CT CV HA HB
    go_wp2_with fail
    go_loopw [7, 57] (fun v i wr => ∃ (k : Nat) (A' : Option Addr) (c' m : Nat), k ≤ n ∧ i = .int .i64 k ∧ (([(rvName, SV)] : List Pr) ++ rest (ps.take k)).length = m ∧ v = .slice A' m c' ∧ Own wr w1.heap.size 171 2 A' m c' (sps (([(rvName, SV)] : List Pr) ++ rest (ps.take k))) ∧ Below w1.heap.size w1 wr) (fun _ i _ => n - (intOf i).toNat)
    case atStart => exact ⟨0, _, _, 1, by omega, rfl, rfl, rfl, owv, bwv⟩
    case round =>
      obtain ⟨k, A', c', m, hk, rfl, hmm, rfl, o1, hbr⟩ := hrel
      have hmk : m ≤ k + 2 := by
        have := rest_take_len ps k
        rw [List.length_append] at hmm
        simp only [List.length_cons, List.length_nil] at hmm
        omega
      have szr : w1.heap.size ≤ wr.heap.size := Nat.le_trans (by omega) hbr.size
      have hbw2 : Below w.heap.size w wr := below_on hb1 (hbr.mono (by omega))
      have HM := hide hmm
      clear hmm
      by_cases hlt : k < n
      · obtain ⟨ad, p, rfl, hbk, hp, hc0, hc1⟩ := (h.below hbw2).scell hlt
        have bp := Blk.new wr 171 #[.string p.1, .string p.2]
        have hba : Below w1.heap.size w1 (wr.alloc (.cells #[.string p.1, .string p.2] 171)) := hbr.alloc (by omega) _
        have q0 := bp.at_ (i := 0) (u := .string p.1) rfl
        have q1 := bp.at_ (i := 1) (u := .string p.2) rfl
        by_cases eth : p.1 = thName
        · have t1 : (p.1.toList == [116, 104]) = true := is_text eth
          have t2 : (p.1.toList == [114, 118]) = false := not_text (fun e => names_differ (eth.symm.trans e))
          have HR := hide (rest_skip hp (isMark_th eth))
          clear hp eth
          have o2 := o1.alloc (.cells #[.string p.1, .string p.2] 171)
          clear o1
          go_wp2_with fail
          exact ⟨⟨k + 1, A', c', m, by omega, by go_num, by rw [HR.out]; exact HM.out, rfl, by rw [HR.out]; exact o2, hba⟩, by simp [intOf]; omega⟩
        · by_cases erv : p.1 = rvName
          · have t1 : (p.1.toList == [116, 104]) = false := not_text eth
            have t2 : (p.1.toList == [114, 118]) = true := is_text erv
            have HR := hide (rest_skip hp (isMark_rv erv))
            clear hp eth erv
            have o2 := o1.alloc (.cells #[.string p.1, .string p.2] 171)
            clear o1
            go_wp2_with fail
            exact ⟨⟨k + 1, A', c', m, by omega, by go_num, by rw [HR.out]; exact HM.out, rfl, by rw [HR.out]; exact o2, hba⟩, by simp [intOf]; omega⟩
          · have t1 : (p.1.toList == [116, 104]) = false := not_text eth
            have t2 : (p.1.toList == [114, 118]) = false := not_text erv
            have HR := hide (rest_keep hp (isMark_no eth erv))
            clear hp eth erv
            go_wp2_with (at_builtin; refine wpList_append_sl T_pair rfl _ _ rfl (by rfl) (by rfl) ((o1.alloc _).alloc _) (Sl.blk 2 1 (cs := sps [p]) (e := 171) (at_new3 _ _ _) rfl (by simp [maxLen])) (sps_one [p]) (by simp only [maxLen]; omega) (by omega) (by simp <;> omega) ?_; intro A3 c3 w3 ap)
            have o3 := ap.own
            rw [← sps_append, List.append_assoc, ← HR.out] at o3
            have b3 : Below w1.heap.size w1 w3 := (hba.alloc (by simp <;> omega) _).trans ap.below
            clear ap o1
            go_wp2_with fail
            exact ⟨⟨k + 1, A3, c3, m + 1, by omega, by go_num, by rw [HR.out, ← List.append_assoc, List.length_append, HM.out]; rfl, rfl, o3, b3⟩, by simp [intOf]; omega⟩
      · obtain rfl : k = n := by omega
        have HR := hide (rest_all hlen.out)
        have HAll : Hid (setAll ps ((a : Int), (b : Int), false, true) = ([(rvName, SV)] : List Pr) ++ rest (ps.take k)) := by unfold setAll; rw [HH.out, HR.out]; rfl
        by_cases h40 : 40 < m
        · have HE := hide (show E = 2 by rw [← HS.out]; exact setE_large HD.out (by rw [HAll.out, HM.out]; exact h40))
          clear o1
          go_wp2_with fail
          rw [HE.out]
          go_ret2
          exact setRet_nil hbw2
        · have HE := hide (show E = 0 by rw [← HS.out]; exact setE_ok HD.out (by rw [HAll.out, HM.out]; exact h40))
          have s1 := o1.sl
          clear o1
          go_wp2_with fail
          rw [HE.out]
          go_ret2
          exact ⟨A', m, c', rfl, by rw [show setL ps ((a : Int), (b : Int), false, true) 0 = _ from if_pos rfl, HAll.out]; exact s1, hbw2⟩
  case true.false =>
    go_wp2_with fail
    refine (CT.out _).mono ?_
    rintro e w2 ⟨rfl, qu, rfl⟩
    go_wp2_with (at_builtin; refine wpList_append_sl T_pair rfl _ _ rfl (by rfl) (by rfl) ((Own.nil _ w1.heap.size _ 2)) (Sl.blk 2 1 (cs := sps [(thName, ST)]) (e := 171) (at_new _ _) rfl (by simp [maxLen])) (sps_one [(thName, ST)]) (by simp only [maxLen]; omega) (by omega) (by simp <;> omega) ?_; intro Au cu wu ap; have bwu : Below w1.heap.size w1 wu := ((below_drewN hbw qu).alloc (by simp <;> omega) _).trans ap.below; have bu := b1.below bwu hgB; have mu_1 := bu.at_ (i := 1) (u := .int .i64 b) rfl; have mu_3 := bu.at_ (i := 3) (u := .bool false) rfl)
    have owu := ap.own
    rw [List.nil_append] at owu
    have szu : w1.heap.size ≤ wu.heap.size := Nat.le_trans (by omega) bwu.size
    clear ap
    clear CT CV HA HB
    go_wp2_with fail
    go_loopw [7, 57] (fun v i wr => ∃ (k : Nat) (A' : Option Addr) (c' m : Nat), k ≤ n ∧ i = .int .i64 k ∧ (([(thName, ST)] : List Pr) ++ rest (ps.take k)).length = m ∧ v = .slice A' m c' ∧ Own wr w1.heap.size 171 2 A' m c' (sps (([(thName, ST)] : List Pr) ++ rest (ps.take k))) ∧ Below w1.heap.size w1 wr) (fun _ i _ => n - (intOf i).toNat)
    case atStart => exact ⟨0, _, _, 1, by omega, rfl, rfl, rfl, owu, bwu⟩
    case round =>
      obtain ⟨k, A', c', m, hk, rfl, hmm, rfl, o1, hbr⟩ := hrel
      have hmk : m ≤ k + 2 := by
        have := rest_take_len ps k
        rw [List.length_append] at hmm
        simp only [List.length_cons, List.length_nil] at hmm
        omega
      have szr : w1.heap.size ≤ wr.heap.size := Nat.le_trans (by omega) hbr.size
      have hbw2 : Below w.heap.size w wr := below_on hb1 (hbr.mono (by omega))
      have HM := hide hmm
      clear hmm
      by_cases hlt : k < n
      · obtain ⟨ad, p, rfl, hbk, hp, hc0, hc1⟩ := (h.below hbw2).scell hlt
        have bp := Blk.new wr 171 #[.string p.1, .string p.2]
        have hba : Below w1.heap.size w1 (wr.alloc (.cells #[.string p.1, .string p.2] 171)) := hbr.alloc (by omega) _
        have q0 := bp.at_ (i := 0) (u := .string p.1) rfl
        have q1 := bp.at_ (i := 1) (u := .string p.2) rfl
        by_cases eth : p.1 = thName
        · have t1 : (p.1.toList == [116, 104]) = true := is_text eth
          have t2 : (p.1.toList == [114, 118]) = false := not_text (fun e => names_differ (eth.symm.trans e))
          have HR := hide (rest_skip hp (isMark_th eth))
          clear hp eth
          have o2 := o1.alloc (.cells #[.string p.1, .string p.2] 171)
          clear o1
          go_wp2_with fail
          exact ⟨⟨k + 1, A', c', m, by omega, by go_num, by rw [HR.out]; exact HM.out, rfl, by rw [HR.out]; exact o2, hba⟩, by simp [intOf]; omega⟩
        · by_cases erv : p.1 = rvName
          · have t1 : (p.1.toList == [116, 104]) = false := not_text eth
            have t2 : (p.1.toList == [114, 118]) = true := is_text erv
            have HR := hide (rest_skip hp (isMark_rv erv))
            clear hp eth erv
            have o2 := o1.alloc (.cells #[.string p.1, .string p.2] 171)
            clear o1
            go_wp2_with fail
            exact ⟨⟨k + 1, A', c', m, by omega, by go_num, by rw [HR.out]; exact HM.out, rfl, by rw [HR.out]; exact o2, hba⟩, by simp [intOf]; omega⟩
          · have t1 : (p.1.toList == [116, 104]) = false := not_text eth
            have t2 : (p.1.toList == [114, 118]) = false := not_text erv
            have HR := hide (rest_keep hp (isMark_no eth erv))
            clear hp eth erv
            go_wp2_with (at_builtin; refine wpList_append_sl T_pair rfl _ _ rfl (by rfl) (by rfl) ((o1.alloc _).alloc _) (Sl.blk 2 1 (cs := sps [p]) (e := 171) (at_new3 _ _ _) rfl (by simp [maxLen])) (sps_one [p]) (by simp only [maxLen]; omega) (by omega) (by simp <;> omega) ?_; intro A3 c3 w3 ap)
            have o3 := ap.own
            rw [← sps_append, List.append_assoc, ← HR.out] at o3
            have b3 : Below w1.heap.size w1 w3 := (hba.alloc (by simp <;> omega) _).trans ap.below
            clear ap o1
            go_wp2_with fail
            exact ⟨⟨k + 1, A3, c3, m + 1, by omega, by go_num, by rw [HR.out, ← List.append_assoc, List.length_append, HM.out]; rfl, rfl, o3, b3⟩, by simp [intOf]; omega⟩
      · obtain rfl : k = n := by omega
        have HR := hide (rest_all hlen.out)
        have HAll : Hid (setAll ps ((a : Int), (b : Int), true, false) = ([(thName, ST)] : List Pr) ++ rest (ps.take k)) := by unfold setAll; rw [HH.out, HR.out]; rfl
        by_cases h40 : 40 < m
        · have HE := hide (show E = 2 by rw [← HS.out]; exact setE_large HD.out (by rw [HAll.out, HM.out]; exact h40))
          clear o1
          go_wp2_with fail
          rw [HE.out]
          go_ret2
          exact setRet_nil hbw2
        · have HE := hide (show E = 0 by rw [← HS.out]; exact setE_ok HD.out (by rw [HAll.out, HM.out]; exact h40))
          have s1 := o1.sl
          clear o1
          go_wp2_with fail
          rw [HE.out]
          go_ret2
          exact ⟨A', m, c', rfl, by rw [show setL ps ((a : Int), (b : Int), true, false) 0 = _ from if_pos rfl, HAll.out]; exact s1, hbw2⟩
  case true.true =>
    go_wp2_with fail
    refine (CT.out _).mono ?_
    rintro e w2 ⟨rfl, qu, rfl⟩
    go_wp2_with (at_builtin; refine wpList_append_sl T_pair rfl _ _ rfl (by rfl) (by rfl) ((Own.nil _ w1.heap.size _ 2)) (Sl.blk 2 1 (cs := sps [(thName, ST)]) (e := 171) (at_new _ _) rfl (by simp [maxLen])) (sps_one [(thName, ST)]) (by simp only [maxLen]; omega) (by omega) (by simp <;> omega) ?_; intro Au cu wu ap; have bwu : Below w1.heap.size w1 wu := ((below_drewN hbw qu).alloc (by simp <;> omega) _).trans ap.below; have bu := b1.below bwu hgB; have mu_1 := bu.at_ (i := 1) (u := .int .i64 b) rfl; have mu_3 := bu.at_ (i := 3) (u := .bool true) rfl)
    have owu := ap.own
    rw [List.nil_append] at owu
    have szu : w1.heap.size ≤ wu.heap.size := Nat.le_trans (by omega) bwu.size
    clear ap
    go_wp2_with fail
    refine (CV.out _).mono ?_
    rintro e w2 ⟨rfl, qv, rfl⟩
    go_wp2_with (at_builtin; refine wpList_append_sl T_pair rfl _ _ rfl (by rfl) (by rfl) ((owu.drewN qv).alloc _) (Sl.blk 2 1 (cs := sps [(rvName, SV)]) (e := 171) (at_new _ _) rfl (by simp [maxLen])) (sps_one [(rvName, SV)]) (by simp only [maxLen]; omega) (by omega) (by simp <;> omega) ?_; intro Av cv wv ap; have bwv : Below w1.heap.size w1 wv := ((below_drewN bwu qv).alloc (by simp <;> omega) _).trans ap.below; have bv := b1.below bwv hgB; have mv_1 := bv.at_ (i := 1) (u := .int .i64 b) rfl; have mv_3 := bv.at_ (i := 3) (u := .bool true) rfl)
    have owv := ap.own
    rw [← sps_append] at owv
    have szv : w1.heap.size ≤ wv.heap.size := Nat.le_trans (by omega) bwv.size
    clear ap
    clear CT CV HA HB
    go_wp2_with fail
    go_loopw [7, 57] (fun v i wr => ∃ (k : Nat) (A' : Option Addr) (c' m : Nat), k ≤ n ∧ i = .int .i64 k ∧ (([(thName, ST), (rvName, SV)] : List Pr) ++ rest (ps.take k)).length = m ∧ v = .slice A' m c' ∧ Own wr w1.heap.size 171 2 A' m c' (sps (([(thName, ST), (rvName, SV)] : List Pr) ++ rest (ps.take k))) ∧ Below w1.heap.size w1 wr) (fun _ i _ => n - (intOf i).toNat)
    case atStart => exact ⟨0, _, _, 2, by omega, rfl, rfl, rfl, owv, bwv⟩
    case round =>
      obtain ⟨k, A', c', m, hk, rfl, hmm, rfl, o1, hbr⟩ := hrel
      have hmk : m ≤ k + 2 := by
        have := rest_take_len ps k
        rw [List.length_append] at hmm
        simp only [List.length_cons, List.length_nil] at hmm
        omega
      have szr : w1.heap.size ≤ wr.heap.size := Nat.le_trans (by omega) hbr.size
      have hbw2 : Below w.heap.size w wr := below_on hb1 (hbr.mono (by omega))
      have HM := hide hmm
      clear hmm
      by_cases hlt : k < n
      · obtain ⟨ad, p, rfl, hbk, hp, hc0, hc1⟩ := (h.below hbw2).scell hlt
        have bp := Blk.new wr 171 #[.string p.1, .string p.2]
        have hba : Below w1.heap.size w1 (wr.alloc (.cells #[.string p.1, .string p.2] 171)) := hbr.alloc (by omega) _
        have q0 := bp.at_ (i := 0) (u := .string p.1) rfl
        have q1 := bp.at_ (i := 1) (u := .string p.2) rfl
        by_cases eth : p.1 = thName
        · have t1 : (p.1.toList == [116, 104]) = true := is_text eth
          have t2 : (p.1.toList == [114, 118]) = false := not_text (fun e => names_differ (eth.symm.trans e))
          have HR := hide (rest_skip hp (isMark_th eth))
          clear hp eth
          have o2 := o1.alloc (.cells #[.string p.1, .string p.2] 171)
          clear o1
          go_wp2_with fail
          exact ⟨⟨k + 1, A', c', m, by omega, by go_num, by rw [HR.out]; exact HM.out, rfl, by rw [HR.out]; exact o2, hba⟩, by simp [intOf]; omega⟩
        · by_cases erv : p.1 = rvName
          · have t1 : (p.1.toList == [116, 104]) = false := not_text eth
            have t2 : (p.1.toList == [114, 118]) = true := is_text erv
            have HR := hide (rest_skip hp (isMark_rv erv))
            clear hp eth erv
            have o2 := o1.alloc (.cells #[.string p.1, .string p.2] 171)
            clear o1
            go_wp2_with fail
            exact ⟨⟨k + 1, A', c', m, by omega, by go_num, by rw [HR.out]; exact HM.out, rfl, by rw [HR.out]; exact o2, hba⟩, by simp [intOf]; omega⟩
          · have t1 : (p.1.toList == [116, 104]) = false := not_text eth
            have t2 : (p.1.toList == [114, 118]) = false := not_text erv
            have HR := hide (rest_keep hp (isMark_no eth erv))
            clear hp eth erv
            go_wp2_with (at_builtin; refine wpList_append_sl T_pair rfl _ _ rfl (by rfl) (by rfl) ((o1.alloc _).alloc _) (Sl.blk 2 1 (cs := sps [p]) (e := 171) (at_new3 _ _ _) rfl (by simp [maxLen])) (sps_one [p]) (by simp only [maxLen]; omega) (by omega) (by simp <;> omega) ?_; intro A3 c3 w3 ap)
            have o3 := ap.own
            rw [← sps_append, List.append_assoc, ← HR.out] at o3
            have b3 : Below w1.heap.size w1 w3 := (hba.alloc (by simp <;> omega) _).trans ap.below
            clear ap o1
            go_wp2_with fail
            exact ⟨⟨k + 1, A3, c3, m + 1, by omega, by go_num, by rw [HR.out, ← List.append_assoc, List.length_append, HM.out]; rfl, rfl, o3, b3⟩, by simp [intOf]; omega⟩
      · obtain rfl : k = n := by omega
        have HR := hide (rest_all hlen.out)
        have HAll : Hid (setAll ps ((a : Int), (b : Int), true, true) = ([(thName, ST), (rvName, SV)] : List Pr) ++ rest (ps.take k)) := by unfold setAll; rw [HH.out, HR.out]; rfl
        by_cases h40 : 40 < m
        · have HE := hide (show E = 2 by rw [← HS.out]; exact setE_large HD.out (by rw [HAll.out, HM.out]; exact h40))
          clear o1
          go_wp2_with fail
          rw [HE.out]
          go_ret2
          exact setRet_nil hbw2
        · have HE := hide (show E = 0 by rw [← HS.out]; exact setE_ok HD.out (by rw [HAll.out, HM.out]; exact h40))
          have s1 := o1.sl
          clear o1
          go_wp2_with fail
          rw [HE.out]
          go_ret2
          exact ⟨A', m, c', rfl, by rw [show setL ps ((a : Int), (b : Int), true, true) 0 = _ from if_pos rfl, HAll.out]; exact s1, hbw2⟩
end
end Go.Proofs.YtjpbjghdplbdcaaGreatDoor
end
