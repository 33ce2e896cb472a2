/-
  The walk of the law FewSays, where the count is too great. Conditions: the counters read as a list of pairs; their keys are Go ints.
-/
import Derived.Test.YtfopihlbdceepaaLawFew0
namespace Go.Proofs.Ytfopihlbdceepaa
open Go.RowKit Go.Shelf Go.Maps
section
variable {A : Option Addr} {n c : Nat} {l : List Ct} {w : World} {K L key v : Int}
set_option maxRecDepth 100000 in
set_option maxHeartbeats 12800000 in
theorem law_few_hi (h : Sp w A n c l) (h0 : fwErr K L n l = 0) (hkk : ∀ p ∈ l, I64 p.1) (hkey : I64 key) (hv1 : ¬ v < 1) (hv : 1000000000000 < v) :
    Calls Try.prog 4 #[.agg #[.int .i64 K, .int .i64 L, .slice A n c], .int .i64 key, .int .i64 v] w fun e w' => e = .returned (.bool true) ∧ Below w.heap.size w w' := by
  have hok := fwErr_ok h.plen h0
  have hcn : n ≤ 1000 := by have := hok.nk; have := hok.k2; omega
  have hV2 := cnt_in hok.up (by omega) (B := 1000000000000) (fun p hp => hok.cnt p hp) key
  have hV3 : cnt (allC l) key = cnt l key := by rw [allC_self hok.up]
  obtain ⟨hL1, hL2⟩ : 0 ≤ L ∧ L ≤ 1000000000000 := ⟨hok.l1, hok.l2⟩
  have CA := hide (fun w (h : Sp w A n c l) => fask_ok (key := key) h hok h0)
  have HCT := hide (show CtOk l from fun p hp => ⟨hkk p hp, hok.cnt p hp⟩)
  have HUA := hide (allC_up l)
  have HE := hide h0
  have HOK := hide hok
  obtain ⟨V, hV⟩ : ∃ V, cnt l key = V := ⟨_, rfl⟩
  rw [hV] at CA hV2 hV3
  have HV := hide hV3
  have ez : IntKind.i64.wrap (V + L) = V + L := IntWalk.i64_in _ (by omega)
  have t1 : (V != V) = false := by simp
  have t2 : (V + L != V + L) = false := by simp
  clear hV hV3 h0
  have CP := hide (fun w (h : Sp w A n c l) => fput_arg (key := key) h HE.out (Or.inr hv))
  have pf_0 := Blk.new w 38 #[.int .i64 K, .int .i64 L, .slice A n c]
  have k_0 : Below w.heap.size w (w.alloc (.cells #[.int .i64 K, .int .i64 L, .slice A n c] 38)) := by repeat' (first | assumption | with_reducible exact Below.refl _ _ | with_reducible apply Below.drew | with_reducible apply below_drewN | with_reducible apply below_alloc | with_reducible refine below_set ?_ ?_ _ | (simp only [World.size_alloc, World.heap_drewN]; omega) | (simp; omega))
  have f_pf0_0 := pf_0.at_ (i := 0) (u := .int .i64 K) rfl
  have f_pf1_0 := pf_0.at_ (i := 1) (u := .int .i64 L) rfl
  have f_pf2_0 := pf_0.at_ (i := 2) (u := .slice A n c) rfl
  go_enter Try.func4, Try.ntmps4
  go_wp2_with fail
  refine (CP.out _ (h.on k_0)).mono ?_
  rintro e w1 ⟨rfl, b1⟩
  clear f_pf0_0 f_pf1_0 f_pf2_0
  have pf_1 := pf_0.below b1 pf_0.lt
  have k_1 := below_on k_0 b1
  clear pf_0
  have pf_2 := pf_1.alloc (.cells #[.int .i64 0, .int .i64 0, .slice none 0 0] 38)
  have k_2 := below_alloc k_1 (.cells #[.int .i64 0, .int .i64 0, .slice none 0 0] 38)
  clear pf_1
  have px_2 := Blk.new w1 38 #[.int .i64 0, .int .i64 0, .slice none 0 0]
  have f_pf0_2 := pf_2.at_ (i := 0) (u := .int .i64 K) rfl
  have f_pf1_2 := pf_2.at_ (i := 1) (u := .int .i64 L) rfl
  have f_pf2_2 := pf_2.at_ (i := 2) (u := .slice A n c) rfl
  go_wp2_with fail
  refine (CA.out _ (h.on k_2)).mono ?_
  rintro e w2 ⟨rfl, b2⟩
  clear f_pf0_2 f_pf1_2 f_pf2_2
  have pf_3 := pf_2.below b2 pf_2.lt
  have px_3 := px_2.below b2 px_2.lt
  have k_3 := below_on k_2 b2
  clear pf_2 px_2
  have f_pf0_3 := pf_3.at_ (i := 0) (u := .int .i64 K) rfl
  have f_pf1_3 := pf_3.at_ (i := 1) (u := .int .i64 L) rfl
  have f_pf2_3 := pf_3.at_ (i := 2) (u := .slice A n c) rfl
  go_wp2_with fail
  refine (rfew_is (h.on k_3) HE.out).mono ?_
  rintro e w3 ⟨rfl, b3⟩
  clear f_pf0_3 f_pf1_3 f_pf2_3
  have pf_4 := pf_3.below b3 pf_3.lt
  have px_4 := px_3.below b3 px_3.lt
  have k_4 := below_on k_3 b3
  clear pf_3 px_3
  have f_pf0_4 := pf_4.at_ (i := 0) (u := .int .i64 K) rfl
  have f_pf1_4 := pf_4.at_ (i := 1) (u := .int .i64 L) rfl
  have f_pf2_4 := pf_4.at_ (i := 2) (u := .slice A n c) rfl
  go_wp2_with fail
  refine (fcheck_is (h.on k_4) HE.out).mono ?_
  rintro e w4 ⟨rfl, b4⟩
  clear f_pf0_4 f_pf1_4 f_pf2_4
  have pf_5 := pf_4.below b4 pf_4.lt
  have px_5 := px_4.below b4 px_4.lt
  have k_5 := below_on k_4 b4
  clear pf_4 px_4
  go_wp2_with fail
  refine (few_none).mono ?_
  rintro e w5 ⟨rfl, b5⟩
  have pf_6 := pf_5.below b5 pf_5.lt
  have px_6 := px_5.below b5 px_5.lt
  have k_6 := below_on k_5 b5
  clear pf_5 px_5
  have f_pf0_6 := pf_6.at_ (i := 0) (u := .int .i64 K) rfl
  have f_pf1_6 := pf_6.at_ (i := 1) (u := .int .i64 L) rfl
  have f_pf2_6 := pf_6.at_ (i := 2) (u := .slice A n c) rfl
  go_wp2_with fail
  refine (counts_any (h.on k_6) HCT.out hcn).mono ?_
  rintro e w6 ⟨rfl, mp6, b6⟩
  clear f_pf0_6 f_pf1_6 f_pf2_6
  have pf_7 := pf_6.below b6 pf_6.lt
  have px_7 := px_6.below b6 px_6.lt
  have k_7 := below_on k_6 b6
  clear pf_6 px_6
  have f_pf0_7 := pf_7.at_ (i := 0) (u := .int .i64 K) rfl
  have f_pf1_7 := pf_7.at_ (i := 1) (u := .int .i64 L) rfl
  have f_pf2_7 := pf_7.at_ (i := 2) (u := .slice A n c) rfl
  have f_px0_7 := px_7.at_ (i := 0) (u := .int .i64 0) rfl
  have f_px1_7 := px_7.at_ (i := 1) (u := .int .i64 0) rfl
  have f_px2_7 := px_7.at_ (i := 2) (u := .slice none 0 0) rfl
  go_wp2_with (at_lookup; refine wpList_mapc_look rfl _ _ rfl mp6 HUA.out Kin Try.underlying3 Try.underlying3 Try.underlying45 (Try.zeroValue3 _) rfl key rfl hkey HV.out ?_)
  refine same_none.mono ?_
  rintro e w7 ⟨rfl, b7⟩
  clear f_pf0_7 f_pf1_7 f_pf2_7 f_px0_7 f_px1_7 f_px2_7
  have pf_8 := pf_7.below b7 pf_7.lt
  have px_8 := px_7.below b7 px_7.lt
  have k_8 := below_on k_7 b7
  clear pf_7 px_7
  go_wp2_with fail
  go_ret
  exact ⟨rfl, k_8⟩
end
end Go.Proofs.Ytfopihlbdceepaa
