/-
  slices.symMergeCmpFunc, stableCmpFunc, SortStableFunc at int: the walks. Conditions: the slice is a row of the call's own that holds each number below its length once; what the function value answers.
-/
import Derived.Test.YtkliebhpdcjdgaaSort3
import Derived.Deep.DeepCutAuto
namespace Go.Proofs.Ytkliebhpdcjdgaa
open Go.RowKit

section
variable {w0 w : World} {B gb n c a m b : Nat} {xs : List Int} {g : FuncId} {v : Value} {κ : Int → Int}
set_option maxRecDepth 100000 in
set_option maxHeartbeats 6400000 in
theorem sym_up (E : SortEnv B w0 g v κ n) (hn : n ≤ 1000) {K : Nat} (IH : ∀ (a m b : Nat) (xs : List Int) (w : World), b - a ≤ K → Rw w0 w B gb n c xs → Pm n xs → SymPre κ n a m b xs →
    Calls Try.prog 159 #[.slice (some ⟨gb, 0, none⟩) n c, .int .i64 (a : Int), .int .i64 (m : Int), .int .i64 (b : Int), .func (.func g) #[] #[v]] w (SrtRet κ w0 B gb n c a b xs))
    (hK : b - a ≤ K + 1) (h : Rw w0 w B gb n c xs) (hp : Pm n xs) (p : SymPre κ n a m b xs) (hm1 : ¬ m = a + 1) (hb1 : ¬ b = m + 1) (hmm0 : (a + b) / 2 < m) :
    Calls Try.prog 159 #[.slice (some ⟨gb, 0, none⟩) n c, .int .i64 (a : Int), .int .i64 (m : Int), .int .i64 (b : Int), .func (.func g) #[] #[v]] w (SrtRet κ w0 B gb n c a b xs) := by
  have eg := E.eg
  have HE := hide E
  have HP := hide hp
  have HPR := hide p
  have HIH := hide IH
  have am := p.am
  have mb := p.mb
  have bn := p.bn
  have em0 : ((m : Int) - (a : Int) == 1) = false := by simp; omega
  have em1 : ((b : Int) - (m : Int) == 1) = false := by simp; omega
  obtain ⟨mid, hmid⟩ : ∃ mid, (a + b) / 2 = mid := ⟨_, rfl⟩
  have emid : ((a : Int) + (b : Int)) / 2 = (mid : Int) := by omega
  obtain ⟨nn, hnn⟩ : ∃ nn, mid + m = nn := ⟨_, rfl⟩
  have enn : (mid : Int) + (m : Int) = (nn : Int) := by omega
  obtain ⟨q, hq⟩ : ∃ q, nn - 1 = q := ⟨_, rfl⟩
  have eq1 : (nn : Int) - 1 = (q : Int) := by omega
  have mid1 : a < mid := by omega
  have mid2 : mid < b := by omega
  have nnb : nn < 2 * b := by omega
  have HMM := hide hmm0
  rw [hmid] at HMM
  have HMID := hide (And.intro hmid (And.intro hnn hq))
  clear E hp p IH hm1 hb1 hmid hnn hq hmm0

  have hmm : mid < m := HMM.out
  · obtain ⟨s0, hs0⟩ : ∃ s0, nn - b = s0 := ⟨_, rfl⟩
    have es0 : (nn : Int) - (b : Int) = (s0 : Int) := by have := HMID.out; omega
    obtain ⟨r0, hr0⟩ : ∃ r0, mid = r0 := ⟨_, rfl⟩
    have HSR := hide (show if mid < m then s0 = mid + m - b ∧ r0 = mid else s0 = a ∧ r0 = m by rw [if_pos hmm]; have := HMID.out; omega)
    have hsr : s0 ≤ r0 := by have := HMID.out; omega
    have hs0a : a ≤ s0 := by have := HMID.out; omega
    have hr0m : r0 ≤ m := by omega
    have hr0n : r0 ≤ mid := by omega
    have hqq : r0 ≤ q + 1 := by have := HMID.out; omega
    have HQ := hide (show ∀ c, s0 ≤ c → c < r0 → m ≤ q - c ∧ q - c < b from fun c h1 h2 => by have := HMID.out; omega)
    have HSS := hide (And.intro hs0 hr0)
    have HQM := hide (show q = mid + m - 1 by have := HMID.out; omega)
    have st1 : (mid : Int) < (m : Int) := by omega
    clear hs0 hr0
    go_enter Try.func159, Try.ntmps159
    go_wp2_with fail
    go_loopw [20, 21] (fun vi vj wr => ∃ s r : Nat, vi = .int .i64 s ∧ vj = .int .i64 r ∧ Rw w0 wr B gb n c xs ∧ Sea κ xs s0 r0 q s r) (fun vi vj _ => (intOf vj - intOf vi).toNat)
    case atStart => exact ⟨s0, r0, rfl, by rw [HSS.out.2], h, Sea.start hsr⟩
    case round =>
      clear h
      obtain ⟨s, r, rfl, rfl, hr, hsea⟩ := hrel
      have o1 := hsea.o1
      have o2 := hsea.o2
      have o3 := hsea.o3
      have HSEA := hide hsea
      clear hsea
      by_cases hlt : s < r
      · as_aux_lemma =>
          obtain ⟨h, hh⟩ : ∃ h, (s + r) / 2 = h := ⟨_, rfl⟩
          have h1 : s ≤ h := by omega
          have h2 : h < r := by omega
          have em : ((s : Int) + (r : Int)) / 2 = (h : Int) := by omega
          obtain ⟨k1, k2⟩ := HQ.out h (by omega) (by omega)
          obtain ⟨d, hd⟩ : ∃ d, q - h = d := ⟨_, rfl⟩
          have ed : (q : Int) - (h : Int) = (d : Int) := by omega
          rw [hd] at k1 k2
          have hn' : h < n := by omega
          have dn : d < n := by omega
          have edw : IntKind.i64.wrap (d : Int) = (d : Int) := by rw [IntKind.wrap_i64]; omega
          have b1 : (0 : Int) ≤ (h : Int) := by omega
          have b2 : (h : Int) < (n : Int) := by omega
          have b3 : (0 : Int) ≤ (d : Int) := by omega
          have b4 : (d : Int) < (n : Int) := by omega
          have cx := hr.at_ dn
          have cy := hr.at_ hn'
          have HC := hide (HE.out.at_ hr HP.out dn hn')
          obtain ⟨D, hD⟩ : ∃ D, κ (el xs d) - κ (el xs h) = D := ⟨_, rfl⟩
          rw [hD] at HC
          by_cases hc : D < 0
          · have t1 : decide (D < 0) = true := decide_eq_true hc
            have HNX := hide (HSEA.out.less HPR.out hs0a hr0m HQ.out hqq h1 h2 (by rw [hd]; omega))
            clear hD hc hd hh
            obtain ⟨x, hx⟩ : ∃ x, el xs d = x := ⟨_, rfl⟩
            obtain ⟨y, hy⟩ : ∃ y, el xs h = y := ⟨_, rfl⟩
            rw [hx] at cx HC
            rw [hy] at cy HC
            clear hx hy
            go_wp2_with fail
            go_quiet ((exact HC.out _))
            go_wp2_with fail
            go_roundw
            case rel => exact ⟨s, h, rfl, rfl, hr.drewN nq, HNX.out⟩
            case measure => simp [intOf]; omega
          · have t1 : decide (D < 0) = false := decide_eq_false hc
            have HNX := hide (HSEA.out.more HPR.out hs0a hr0m HQ.out hqq h1 h2 (by rw [hd]; omega))
            clear hD hc hd hh
            obtain ⟨x, hx⟩ : ∃ x, el xs d = x := ⟨_, rfl⟩
            obtain ⟨y, hy⟩ : ∃ y, el xs h = y := ⟨_, rfl⟩
            rw [hx] at cx HC
            rw [hy] at cy HC
            clear hx hy
            go_wp2_with fail
            go_quiet ((exact HC.out _))
            go_wp2_with fail
            go_roundw
            case rel => exact ⟨h + 1, r, by go_num, rfl, hr.drewN nq, HNX.out⟩
            case measure => simp [intOf]; omega
      · obtain rfl : s = r := by omega
        have HSEA2 := hide (show Sea κ xs s0 r0 (mid + m - 1) s s by rw [← HQM.out]; exact HSEA.out)
        have HG := hide (fun (ys : List Int) (hy : ∀ k, el ys k = el xs (rotI s m (mid + m - s) k)) => cut_of HPR.out (by have := HMID.out; omega) HSR.out HSEA2.out hy)
        have HN1 := hide (show mid + m = nn from HMID.out.2.1)
        rw [HN1.out] at HG
        obtain ⟨en, hen⟩ : ∃ en, nn - s = en := ⟨_, rfl⟩
        rw [hen] at HG
        have smid : s ≤ mid := by omega
        have sm : s ≤ m := by omega
        have een : (nn : Int) - (s : Int) = (en : Int) := by have := HMID.out; omega
        have g4 : mid ≤ en := by have := HMID.out; omega
        have g5 : m ≤ en := by have := HMID.out; omega
        have g6 : en ≤ b := by have := HMID.out; have := HSR.out; have := HSS.out; omega
        have g1 : a ≤ s := by omega
        clear hen
        go_upto_region 39 with fail
        go_cut [185] (fun s185 wx => s185 = .bool (decide (s < m ∧ m < en)) ∧ wr = wx)
        case first =>
          by_cases c1 : s < m
          all_goals by_cases c2 : m < en
          all_goals have E1 := hide c1
          all_goals have E2 := hide c2
          all_goals go_wp2_with fail
          all_goals go_meet
          all_goals exact ⟨by have f1 := E1.out; have f2 := E2.out; first | rw [decide_eq_true (And.intro f1 f2)] | rw [decide_eq_false (fun h => f1 h.1)] | rw [decide_eq_false (fun h => f2 h.2)], rfl⟩
        case rest =>
          obtain ⟨rfl, rfl⟩ := hcut
          obtain ⟨T, hT⟩ : ∃ T, decide (s < m ∧ m < en) = T := ⟨_, rfl⟩
          rw [hT]
          have HT := hide hT
          clear hT
          go_upto_if 185 with fail
          go_cut [191] (fun s191 wx => ∃ ys, Rw w0 wx B gb n c ys ∧ (∀ k, el ys k = el xs (rotI s m en k)) ∧ Mv n a b xs ys)
          case first => as_aux_lemma =>
            cases T
            · have hf := of_decide_eq_false HT.out
              have HF := hide hf
              clear hf
              go_wp2_with fail
              go_meet
              exact ⟨xs, hr, fun k => by rw [rot_none HF.out sm g5], Mv.refl _ _ _ _⟩
            · obtain ⟨c1, c2⟩ := of_decide_eq_true HT.out
              go_wp2_with fail
              refine (rotate_any hr c1 c2 (by omega) hn).mono ?_
              rintro e w1 ⟨ys, rfl, hr1, hy, hm1⟩
              have HY := hide hy
              have HM1 := hide hm1
              clear hy hm1
              go_wp2_with fail
              go_meet
              exact ⟨ys, hr1, HY.out, HM1.out.mono g1 g6⟩
          case rest =>
            clear hr HT
            obtain ⟨ys, hr, hy, hmv⟩ := hcut
            have HCUT := hide ((HG.out ys hy).2.2.2.2.2.2)
            have HMV := hide hmv
            clear hy hmv
            obtain ⟨wr, rfl⟩ : ∃ wr : World, wr = wc := ⟨_, rfl⟩
            go_upto_region 41 with fail
            go_cut [199] (fun s199 wx => s199 = .bool (decide (a < s ∧ s < mid)) ∧ wr = wx)
            case first =>
              by_cases c1 : a < s
              all_goals by_cases c2 : s < mid
              all_goals have E1 := hide c1
              all_goals have E2 := hide c2
              all_goals go_wp2_with fail
              all_goals go_meet
              all_goals exact ⟨by have f1 := E1.out; have f2 := E2.out; first | rw [decide_eq_true (And.intro f1 f2)] | rw [decide_eq_false (fun h => f1 h.1)] | rw [decide_eq_false (fun h => f2 h.2)], rfl⟩
            case rest =>
              obtain ⟨rfl, rfl⟩ := hcut
              obtain ⟨T, hT⟩ : ∃ T, decide (a < s ∧ s < mid) = T := ⟨_, rfl⟩
              rw [hT]
              have HT := hide hT
              clear hT
              go_upto_if 199 with fail
              go_cut [204] (fun s204 wx => ∃ zs, Rw w0 wx B gb n c zs ∧ SymPost κ n a mid ys zs)
              case first => as_aux_lemma =>
                cases T
                · have hf := of_decide_eq_false HT.out
                  have HF := hide hf
                  clear hf
                  go_wp2_with fail
                  go_meet
                  exact ⟨ys, hr, cut_left HCUT.out HF.out g1 smid⟩
                · obtain ⟨c1, c2⟩ := of_decide_eq_true HT.out
                  go_wp2_with fail
                  refine (HIH.out a s mid ys _ (by omega) hr (HMV.out.pm HP.out) ⟨c1, c2, by omega, hr.len, HCUT.out.l1, HCUT.out.l2, HCUT.out.lc⟩).mono ?_
                  rintro e w1 ⟨zs, rfl, hr1, hz⟩
                  have HZ := hide hz
                  clear hz
                  go_wp2_with fail
                  go_meet
                  exact ⟨zs, hr1, HZ.out⟩
              case rest =>
                clear hr HT
                obtain ⟨zs, hr, hz⟩ := hcut
                have HZ := hide hz
                have HZS := hide (hz.mv.mono (Nat.le_refl a) (show mid ≤ b by omega))
                clear hz
                by_cases c1 : mid < en
                · by_cases c2 : en < b
                  · go_wp2_with fail
                    refine (HIH.out mid en b zs _ (by omega) hr (HZS.out.pm (HMV.out.pm HP.out)) ⟨c1, c2, bn, hr.len, ?_, ?_, ?_⟩).mono ?_
                    · intro i j h1 h2 h3
                      rw [HZ.out.mv.out i (by omega), HZ.out.mv.out j (by omega)]; exact HCUT.out.r1 i j h1 h2 h3
                    · intro i j h1 h2 h3
                      rw [HZ.out.mv.out i (by omega), HZ.out.mv.out j (by omega)]; exact HCUT.out.r2 i j h1 h2 h3
                    · intro i j h1 h2 h3 h4
                      rw [HZ.out.mv.out i (by omega), HZ.out.mv.out j (by omega)]; exact HCUT.out.rc i j h1 h2 h3 h4
                    rintro e w1 ⟨us, rfl, hr1, hu⟩
                    have HU := hide hu
                    clear hu
                    go_wp2_with fail
                    go_end0
                    exact ⟨us, rfl, hr1, (HMV.out.trans HZS.out).trans (HU.out.mv.mono (by omega) (Nat.le_refl _)), cut_done HCUT.out (by omega) HZ.out HU.out (by omega)⟩
                  · go_wp2_with fail
                    go_end0
                    exact ⟨zs, rfl, hr, HMV.out.trans HZS.out, cut_done HCUT.out (by omega) HZ.out (cut_right HCUT.out (fun k hk => HZ.out.mv.out k (.inr hk)) (fun h => c2 h.2) g4 g6) (by omega)⟩
                · go_wp2_with fail
                  go_end0
                  exact ⟨zs, rfl, hr, HMV.out.trans HZS.out, cut_done HCUT.out (by omega) HZ.out (cut_right HCUT.out (fun k hk => HZ.out.mv.out k (.inr hk)) (fun h => c1 h.1) g4 g6) (by omega)⟩
end
end Go.Proofs.Ytkliebhpdcjdgaa
