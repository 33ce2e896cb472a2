/-
  The walk of the law FewSays, where all may be. Conditions: the counters read as a list of pairs; their keys are Go ints.
-/
import Derived.Test.YtfopihlbdceepaaFewReg
namespace Go.Proofs.Ytfopihlbdceepaa
open Go.RowKit Go.Shelf Go.Maps
section
variable {A : Option Addr} {n c : Nat} {l : List Ct} {w : World} {K L key v : Int}
set_option maxRecDepth 100000 in
set_option maxHeartbeats 12800000 in
theorem law_few_ok {k : Nat} (h : Sp w A n c l) (h0 : fwErr (k : Int) L n l = 0) (hkk : ∀ p ∈ l, I64 p.1) (hkey : I64 key) (hv1 : 1 ≤ v) (hv2 : v ≤ 1000000000000) :
    Calls Try.prog 4 #[.agg #[.int .i64 k, .int .i64 L, .slice A n c], .int .i64 key, .int .i64 v] w fun e w' => e = .returned (.bool true) ∧ Below w.heap.size w w' := by
  have hok := fwErr_ok h.plen h0
  have hcn : n ≤ 1000 := by have := hok.nk; have := hok.k2; omega
  have hV2 := cnt_in hok.up (by omega) (B := 1000000000000) (fun p hp => hok.cnt p hp) key
  have hV3 : cnt (allC l) key = cnt l key := by rw [allC_self hok.up]
  obtain ⟨hL1, hL2⟩ : 0 ≤ L ∧ L ≤ 1000000000000 := ⟨hok.l1, hok.l2⟩
  have CA := hide (fun w (h : Sp w A n c l) => fask_ok (key := key) h hok h0)
  have HCT := hide (show CtOk l from fun p hp => ⟨hkk p hp, hok.cnt p hp⟩)
  have HUA := hide (allC_up l)
  have HE := hide h0
  have HOK := hide hok
  obtain ⟨V, hV⟩ : ∃ V, cnt l key = V := ⟨_, rfl⟩
  rw [hV] at CA hV2 hV3
  have HV := hide hV3
  have ez : IntKind.i64.wrap (V + L) = V + L := IntWalk.i64_in _ (by omega)
  have t1 : (V != V) = false := by simp
  have t2 : (V + L != V + L) = false := by simp
  clear hV hV3 h0
  have hlv1 : ¬ v < 1 := by omega
  have hlv2 : ¬ 1000000000000 < v := by omega
  have CP := hide (fun w (h : Sp w A n c l) => fput_any (key := key) h HOK.out HE.out hv1 hv2)
  have HLN := hide h.plen
  have hk1 : 1 ≤ k := by have := hok.k1; omega
  have hk2 : k ≤ 16 := by have := hok.k2; omega
  have hnk : n ≤ 16 := by have := hok.nk; omega
  have HCT2 := hide (ctok_snoc hok hkk hkey hv1 hv2)
  have HUA2 := hide (allC_up (l ++ [(key, v)]))
  have HBA2 := hide (show ∀ p ∈ allC (l ++ [(key, v)]), 1 ≤ p.2 ∧ p.2 ≤ 1000000000000000 from fun p hp => by
    have hq := allC_bnd HCT2.out (l ++ [(key, v)]).length (Nat.le_refl _) p (by rw [List.take_length]; exact hp)
    have hl2 : (l ++ [(key, v)]).length = n + 1 := by rw [List.length_append, h.plen]; rfl
    omega)
  clear hok
  have pf_0 := Blk.new w 38 #[.int .i64 (k : Int), .int .i64 L, .slice A n c]
  have k_0 : Below w.heap.size w (w.alloc (.cells #[.int .i64 (k : Int), .int .i64 L, .slice A n c] 38)) := by repeat' (first | assumption | with_reducible exact Below.refl _ _ | with_reducible apply Below.drew | with_reducible apply below_drewN | with_reducible apply below_alloc | with_reducible refine below_set ?_ ?_ _ | (simp only [World.size_alloc, World.heap_drewN]; omega) | (simp; omega))
  have f_pf0_0 := pf_0.at_ (i := 0) (u := .int .i64 (k : Int)) rfl
  have f_pf1_0 := pf_0.at_ (i := 1) (u := .int .i64 L) rfl
  have f_pf2_0 := pf_0.at_ (i := 2) (u := .slice A n c) rfl
  go_enter Try.func4, Try.ntmps4
  go_wp2_with fail
  refine (CP.out _ (h.on k_0)).mono ?_
  rintro e w1 ⟨PE, K1, L1, A1, n1, c1, l1, rfl, s1, hp1, b1⟩
  clear f_pf0_0 f_pf1_0 f_pf2_0
  have pf_1 := pf_0.below b1 pf_0.lt
  have k_1 := below_on k_0 b1
  clear pf_0
  have HP := hide hp1
  clear hp1
  have pf_2 := pf_1.alloc (.cells #[.int .i64 K1, .int .i64 L1, .slice A1 n1 c1] 38)
  have sx_s2 := s1.on (below_alloc (Below.refl _ _) (.cells #[.int .i64 K1, .int .i64 L1, .slice A1 n1 c1] 38))
  have k_2 := below_alloc k_1 (.cells #[.int .i64 K1, .int .i64 L1, .slice A1 n1 c1] 38)
  clear pf_1 s1
  have px_2 := Blk.new w1 38 #[.int .i64 K1, .int .i64 L1, .slice A1 n1 c1]
  have f_pf0_2 := pf_2.at_ (i := 0) (u := .int .i64 (k : Int)) rfl
  have f_pf1_2 := pf_2.at_ (i := 1) (u := .int .i64 L) rfl
  have f_pf2_2 := pf_2.at_ (i := 2) (u := .slice A n c) rfl
  go_wp2_with fail
  refine (CA.out _ (h.on k_2)).mono ?_
  rintro e w2 ⟨rfl, b2⟩
  clear f_pf0_2 f_pf1_2 f_pf2_2
  have pf_3 := pf_2.below b2 pf_2.lt
  have px_3 := px_2.below b2 px_2.lt
  have sx_s3 := sx_s2.on b2
  have k_3 := below_on k_2 b2
  clear pf_2 px_2 sx_s2
  have f_pf0_3 := pf_3.at_ (i := 0) (u := .int .i64 (k : Int)) rfl
  have f_pf1_3 := pf_3.at_ (i := 1) (u := .int .i64 L) rfl
  have f_pf2_3 := pf_3.at_ (i := 2) (u := .slice A n c) rfl
  go_wp2_with fail
  refine (rfew_is (h.on k_3) HE.out).mono ?_
  rintro e w3 ⟨rfl, b3⟩
  clear f_pf0_3 f_pf1_3 f_pf2_3
  have pf_4 := pf_3.below b3 pf_3.lt
  have px_4 := px_3.below b3 px_3.lt
  have sx_s4 := sx_s3.on b3
  have k_4 := below_on k_3 b3
  clear pf_3 px_3 sx_s3
  have f_pf0_4 := pf_4.at_ (i := 0) (u := .int .i64 (k : Int)) rfl
  have f_pf1_4 := pf_4.at_ (i := 1) (u := .int .i64 L) rfl
  have f_pf2_4 := pf_4.at_ (i := 2) (u := .slice A n c) rfl
  go_wp2_with fail
  refine (fcheck_is (h.on k_4) HE.out).mono ?_
  rintro e w4 ⟨rfl, b4⟩
  clear f_pf0_4 f_pf1_4 f_pf2_4
  have pf_5 := pf_4.below b4 pf_4.lt
  have px_5 := px_4.below b4 px_4.lt
  have sx_s5 := sx_s4.on b4
  have k_5 := below_on k_4 b4
  clear pf_4 px_4 sx_s4
  go_wp2_with fail
  refine (few_none).mono ?_
  rintro e w5 ⟨rfl, b5⟩
  have pf_6 := pf_5.below b5 pf_5.lt
  have px_6 := px_5.below b5 px_5.lt
  have sx_s6 := sx_s5.on b5
  have k_6 := below_on k_5 b5
  clear pf_5 px_5 sx_s5
  have f_pf0_6 := pf_6.at_ (i := 0) (u := .int .i64 (k : Int)) rfl
  have f_pf1_6 := pf_6.at_ (i := 1) (u := .int .i64 L) rfl
  have f_pf2_6 := pf_6.at_ (i := 2) (u := .slice A n c) rfl
  go_wp2_with fail
  refine (counts_any (h.on k_6) HCT.out hcn).mono ?_
  rintro e w6 ⟨rfl, mp6, b6⟩
  clear f_pf0_6 f_pf1_6 f_pf2_6
  have pf_7 := pf_6.below b6 pf_6.lt
  have px_7 := px_6.below b6 px_6.lt
  have sx_s7 := sx_s6.on b6
  have k_7 := below_on k_6 b6
  clear pf_6 px_6 sx_s6
  have h6 := h.on k_7
  have f_pf0_7 := pf_7.at_ (i := 0) (u := .int .i64 (k : Int)) rfl
  have f_pf1_7 := pf_7.at_ (i := 1) (u := .int .i64 L) rfl
  have f_pf2_7 := pf_7.at_ (i := 2) (u := .slice A n c) rfl
  go_wp2_with (at_lookup; refine wpList_mapc_look rfl _ _ rfl mp6 HUA.out Kin Try.underlying3 Try.underlying3 Try.underlying45 (Try.zeroValue3 _) rfl key rfl hkey HV.out ?_)
  have hpl := pf_7.lt
  clear f_pf0_7 f_pf1_7 f_pf2_7
  have x0 := pf_7.at_ (i := 0) (u := .int .i64 (k : Int)) rfl
  have x1 := pf_7.at_ (i := 1) (u := .int .i64 L) rfl
  have x2 := pf_7.at_ (i := 2) (u := .slice A n c) rfl
  refine anyTill.begin (S := Till (fun w' => w'.cell? ⟨w.heap.size, 0, none⟩ = some (.int .i64 (k : Int)) ∧ w'.cell? ⟨w.heap.size, 1, none⟩ = some (.int .i64 L) ∧ w'.cell? ⟨w.heap.size, 2, none⟩ = some (.slice A n c)) (fun _ => True) []) (by kernel_rfl) ?_
  refine fewreg_start h6 hnk HCT2.out HUA2.out HBA2.out hk1 hk2 hL1 hL2 hpl x0 x1 x2 (fun _ _ d _ _ h => by cases d <;> exact h) ?_ (by rfl) (by kernel_rfl) (by rfl) (by repeat' (first | assumption | with_reducible exact Below.refl _ _ | with_reducible apply Below.drew | with_reducible apply below_drewN | with_reducible apply below_alloc | with_reducible refine below_set ?_ ?_ _ | (simp only [World.size_alloc, World.heap_drewN]; omega) | (simp; omega)))
  intro AC cC gb AN cN bm E2 K2 L2 A2 n2 c2 l2 gy wS bS o2S hf kS
  have HEQ := put_law HOK.out HLN.out rfl HP.out hf
  injection HEQ with e1 e2
  injection e2 with e2 e3
  injection e3 with e3 e4
  subst e1; subst e2; subst e3; subst e4
  have s2S : Sp wS A2 n2 c2 l1 := o2S.sl
  obtain rfl : n1 = n2 := sx_s7.plen.symm.trans s2S.plen
  have px_S := px_7.below kS px_7.lt
  have sx_S := sx_s7.on kS
  have k_S := below_on k_7 kS
  have t3 : (PE == PE) = true := by simp
  clear CA HCT HUA HE HOK HV CP HLN HCT2 HUA2 HBA2 HP x0 x1 x2
  have g0 := px_S.at_ (i := 0) (u := .int .i64 K1) rfl
  have g1 := px_S.at_ (i := 1) (u := .int .i64 L1) rfl
  have g2 := px_S.at_ (i := 2) (u := .slice A1 n1 c1) rfl
  have y0 := bS.at_ (i := 0) (u := .int .i64 K1) rfl
  have y1 := bS.at_ (i := 1) (u := .int .i64 L1) rfl
  have y2 := bS.at_ (i := 2) (u := .slice A2 n1 c2) rfl
  go_wp2_with fail
  refine (samef_yes sx_S s2S).mono ?_
  rintro e wT ⟨rfl, bT⟩
  go_wp2_with fail
  go_ret
  exact ⟨rfl, below_on k_S bT⟩
end
end Go.Proofs.Ytfopihlbdceepaa
