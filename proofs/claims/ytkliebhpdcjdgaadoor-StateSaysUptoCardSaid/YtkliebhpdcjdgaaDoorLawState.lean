/-
  The walk of the law StateSays. Conditions: the slice reads as a list of pairs of texts; the texts' lengths; the whole text is not too long; the library's own number is set.
-/
import Derived.Test.YtkliebhpdcjdgaaDoorWrite
import Derived.Test.YtkliebhpdcjdgaaDoorRead2
namespace Go.Proofs.YtkliebhpdcjdgaaDoor
open Go.RowKit Go.Shelf

def emptyPr : List Pr := [(⟨#[]⟩, ⟨#[]⟩)]
theorem emptyPr_err : prErr 1 emptyPr = 3 := by decide +kernel
theorem emptyPr_fit : Fit emptyPr := by
  intro p hp
  rw [emptyPr, List.mem_singleton] at hp
  subst hp
  decide +kernel
theorem key_a (w : World) : Calls Tryd.prog 28 #[.string ⟨#[97]⟩] w fun e w' => e = .returned (.bool true) ∧ w = w' := by
  have k := skey_any (l := [97]) (by decide) w
  rw [show keyOk [97] = true by decide +kernel] at k
  exact k
theorem scheck_is {A : Option Addr} {n c : Nat} {ps : List Pr} {w : World} (h : Sp2 w A n c ps) (hf : Fit ps) {E : Int} (hE : prErr n ps = E) :
    Calls Tryd.prog 30 #[.slice A n c] w fun e w' => e = .returned (.int .i64 E) ∧ Below w.heap.size w w' := by
  have k := scheck_any h hf; rw [hE] at k; exact k
theorem rpairs_is' {A : Option Addr} {n c : Nat} {ps : List Pr} {w : World} (h : Sp2 w A n c ps) (hf : Fit ps) {E : Int} (hE : prErr n ps = E) :
    Calls Tryd.prog 27 #[.slice A n c] w fun e w' => e = .returned (.int .i64 E) ∧ Below w.heap.size w w' := by
  have k := rpairs_any h hf; rw [hE] at k; exact k
section
variable {A : Option Addr} {n c : Nat} {ps : List Pr} {w : World} {l : List UInt8}
set_option maxRecDepth 20000 in
set_option maxHeartbeats 3200000 in
/-- The law's walk, given what Write leaves and what is wanted. -/
theorem law_state_of (h : Sp2 w A n c ps) (hf : Fit ps) (hl : l.length ≤ 140737488351232) (hm : MaxSet w) {E : Int} (hE : prErr n ps = E) {T : ByteArray} {W : Int}
    (CW : Hid (∀ w : World, Sp2 w A n c ps → Calls Tryd.prog 13 #[.slice A n c] w fun e w' => e = .returned (.tuple #[.string T, .int .i64 W]) ∧ Below w.heap.size w w'))
    (CT : Hid (∀ w : World, Sp2 w A n c ps → Calls Tryd.prog 31 #[.slice A n c] w fun e w' => e = .returned (.string (tx (txTo ps n))) ∧ Below w.heap.size w w'))
    (hcase : (¬ E = 0 ∧ W = E ∧ T = ⟨#[]⟩) ∨ (E = 0 ∧ 200 < (txTo ps n).length ∧ W = 2 ∧ T = ⟨#[]⟩) ∨ (E = 0 ∧ ¬ 200 < (txTo ps n).length ∧ W = 0 ∧ T = tx (txTo ps n))) :
    Calls Tryd.prog 5 #[.slice A n c, .string (tx l)] w fun e w' => e = .returned (.bool true) ∧ Below w.heap.size w w' := by
  obtain ⟨G, hG⟩ : ∃ G, rdErr l = G := ⟨_, rfl⟩
  obtain ⟨R, hR⟩ : ∃ R, rdRes l = R := ⟨_, rfl⟩
  obtain ⟨B, hB⟩ : ∃ B, keyOk l = B := ⟨_, rfl⟩
  have CR := hide (fun w (hm : MaxSet w) => sread_any hl (w := w) hm)
  have CQ := hide (fun w => rread_any hl (w := w))
  have CK := hide (fun w => skey_any hl w)
  have CL := hide (fun w => rkey_any hl w)
  rw [hG, hR] at CR CQ
  rw [hB] at CK CL
  have HE := hide hE
  have HM := hide hm
  have tg : (G == G) = true := by simp
  have tb : (B != B) = false := by simp
  have te : (E != E) = false := by simp
  obtain ⟨S, hS⟩ : ∃ S, tx l = S := ⟨_, rfl⟩
  rw [hS] at CR CQ CK CL ⊢
  obtain ⟨L, hL⟩ : ∃ L, tx (txTo ps n) = L := ⟨_, rfl⟩
  have sL : L.size = (txTo ps n).length := by rw [← hL, tx_size]
  rw [hL] at CT hcase
  obtain ⟨N, hN⟩ : ∃ N, (txTo ps n).length = N := ⟨_, rfl⟩
  rw [hN] at sL hcase
  have tl := same_texts (a := L) rfl
  clear hS hL hN hG hR hB hE hm hl
  rcases hcase with ⟨h0, rfl, rfl⟩ | ⟨rfl, h200, rfl, rfl⟩ | ⟨rfl, h200, rfl, rfl⟩
  · have t1 : (W != 0) = true := by simpa using h0
    have t2 : (W == 0) = false := by simpa using h0
    go_enter Tryd.func5, Tryd.ntmps5
    go_wp2_with fail
    refine (CW.out _ h).mono ?_
    rintro e w1 ⟨rfl, b1⟩
    go_wp2_with fail
    refine (CR.out _ (HM.out.below b1)).mono ?_
    rintro e w2 ⟨A2, n2, c2, rfl, s2, b2⟩
    have k2 := below_on b1 b2
    go_wp2_with fail
    refine (rpairs_is' (h.on k2) hf HE.out).mono ?_
    rintro e w3 ⟨rfl, b3⟩
    have k3 := below_on k2 b3
    have s3 := s2.on b3
    clear s2
    go_wp2_with fail
    refine (CK.out _).mono ?_
    rintro e w' ⟨rfl, rfl⟩
    go_wp2_with fail
    refine (CL.out _).mono ?_
    rintro e w4 ⟨rfl, b4⟩
    have k4 := below_on k3 b4
    have s4 := s3.on b4
    clear s3
    go_wp2_with fail
    refine (scheck_is (h.on k4) hf HE.out).mono ?_
    rintro e w5 ⟨rfl, b5⟩
    have k5 := below_on k4 b5
    have s5 := s4.on b5
    clear s4
    go_wp2_with fail
    refine (key_a _).mono ?_
    rintro e w' ⟨rfl, rfl⟩
    have k6 : Below w.heap.size w (w5.alloc (.cells (sps emptyPr).toArray 45)) := below_alloc k5 _
    have s6 := s5.on (below_alloc (Below.refl _ _) (.cells (sps emptyPr).toArray 45))
    clear s5
    go_wp2_with fail
    refine (scheck_is (ps := emptyPr) (Sl.blk 2 1 (cs := sps emptyPr) (at_new _ _) rfl (by simp [maxLen])) emptyPr_fit emptyPr_err).mono ?_
    rintro e w7 ⟨rfl, b7⟩
    have k7 := below_on k6 b7
    have s7 := s6.on b7
    clear s6 k2 k3 k4 k5 k6
    go_wp2_with fail
    refine (CQ.out _).mono ?_
    rintro e w8 ⟨A8, n8, c8, rfl, s8, b8⟩
    have s9 := s7.on b8
    obtain rfl : n2 = n8 := s9.slen.symm.trans s8.slen
    go_wp2_with fail
    refine (equalP_yes A2 A8 n2 c2 c8 R _ s9 s8).mono ?_
    rintro e w9 ⟨rfl, q, rfl⟩
    go_wp2_with fail
    go_ret
    exact ⟨rfl, below_drewN (below_on k7 b8) q⟩
  · go_enter Tryd.func5, Tryd.ntmps5
    go_wp2_with fail
    refine (CW.out _ h).mono ?_
    rintro e w1 ⟨rfl, b1⟩
    go_wp2_with fail
    refine (CR.out _ (HM.out.below b1)).mono ?_
    rintro e w2 ⟨A2, n2, c2, rfl, s2, b2⟩
    have k2 := below_on b1 b2
    go_wp2_with fail
    refine (rpairs_is' (h.on k2) hf HE.out).mono ?_
    rintro e w3 ⟨rfl, b3⟩
    have k3 := below_on k2 b3
    have s3 := s2.on b3
    clear s2
    go_wp2_with fail
    refine (CK.out _).mono ?_
    rintro e w' ⟨rfl, rfl⟩
    go_wp2_with fail
    refine (CL.out _).mono ?_
    rintro e w4 ⟨rfl, b4⟩
    have k4 := below_on k3 b4
    have s4 := s3.on b4
    clear s3
    go_wp2_with fail
    refine (scheck_is (h.on k4) hf HE.out).mono ?_
    rintro e w5 ⟨rfl, b5⟩
    have k5 := below_on k4 b5
    have s5 := s4.on b5
    clear s4
    go_wp2_with fail
    refine (key_a _).mono ?_
    rintro e w' ⟨rfl, rfl⟩
    have k6 : Below w.heap.size w (w5.alloc (.cells (sps emptyPr).toArray 45)) := below_alloc k5 _
    have s6 := s5.on (below_alloc (Below.refl _ _) (.cells (sps emptyPr).toArray 45))
    clear s5
    go_wp2_with fail
    refine (scheck_is (ps := emptyPr) (Sl.blk 2 1 (cs := sps emptyPr) (at_new _ _) rfl (by simp [maxLen])) emptyPr_fit emptyPr_err).mono ?_
    rintro e w7 ⟨rfl, b7⟩
    have k7 := below_on k6 b7
    have s7 := s6.on b7
    clear s6 k2 k3 k4 k5 k6
    go_wp2_with fail
    refine (CT.out _ (h.on k7)).mono ?_
    rintro e w8 ⟨rfl, b8⟩
    have k8 := below_on k7 b8
    have s8' := s7.on b8
    go_wp2_with fail
    refine (CQ.out _).mono ?_
    rintro e w9 ⟨A8, n8, c8, rfl, s8, b9⟩
    have s9 := s8'.on b9
    obtain rfl : n2 = n8 := s9.slen.symm.trans s8.slen
    go_wp2_with fail
    refine (equalP_yes A2 A8 n2 c2 c8 R _ s9 s8).mono ?_
    rintro e w9 ⟨rfl, q, rfl⟩
    go_wp2_with fail
    go_ret
    exact ⟨rfl, below_drewN (below_on k8 b9) q⟩
  · go_enter Tryd.func5, Tryd.ntmps5
    go_wp2_with fail
    refine (CW.out _ h).mono ?_
    rintro e w1 ⟨rfl, b1⟩
    go_wp2_with fail
    refine (CR.out _ (HM.out.below b1)).mono ?_
    rintro e w2 ⟨A2, n2, c2, rfl, s2, b2⟩
    have k2 := below_on b1 b2
    go_wp2_with fail
    refine (rpairs_is' (h.on k2) hf HE.out).mono ?_
    rintro e w3 ⟨rfl, b3⟩
    have k3 := below_on k2 b3
    have s3 := s2.on b3
    clear s2
    go_wp2_with fail
    refine (CK.out _).mono ?_
    rintro e w' ⟨rfl, rfl⟩
    go_wp2_with fail
    refine (CL.out _).mono ?_
    rintro e w4 ⟨rfl, b4⟩
    have k4 := below_on k3 b4
    have s4 := s3.on b4
    clear s3
    go_wp2_with fail
    refine (scheck_is (h.on k4) hf HE.out).mono ?_
    rintro e w5 ⟨rfl, b5⟩
    have k5 := below_on k4 b5
    have s5 := s4.on b5
    clear s4
    go_wp2_with fail
    refine (key_a _).mono ?_
    rintro e w' ⟨rfl, rfl⟩
    have k6 : Below w.heap.size w (w5.alloc (.cells (sps emptyPr).toArray 45)) := below_alloc k5 _
    have s6 := s5.on (below_alloc (Below.refl _ _) (.cells (sps emptyPr).toArray 45))
    clear s5
    go_wp2_with fail
    refine (scheck_is (ps := emptyPr) (Sl.blk 2 1 (cs := sps emptyPr) (at_new _ _) rfl (by simp [maxLen])) emptyPr_fit emptyPr_err).mono ?_
    rintro e w7 ⟨rfl, b7⟩
    have k7 := below_on k6 b7
    have s7 := s6.on b7
    clear s6 k2 k3 k4 k5 k6
    go_wp2_with fail
    refine (CT.out _ (h.on k7)).mono ?_
    rintro e w8 ⟨rfl, b8⟩
    have k8 := below_on k7 b8
    have s8' := s7.on b8
    go_wp2_with fail
    refine (CT.out _ (h.on k8)).mono ?_
    rintro e w10 ⟨rfl, b10⟩
    have k10 := below_on k8 b10
    have s10 := s8'.on b10
    go_wp2_with fail
    refine (CQ.out _).mono ?_
    rintro e w9 ⟨A8, n8, c8, rfl, s8, b9⟩
    have s9 := s10.on b9
    obtain rfl : n2 = n8 := s9.slen.symm.trans s8.slen
    go_wp2_with fail
    refine (equalP_yes A2 A8 n2 c2 c8 R _ s9 s8).mono ?_
    rintro e w9 ⟨rfl, q, rfl⟩
    go_wp2_with fail
    go_ret
    exact ⟨rfl, below_drewN (below_on k10 b9) q⟩
end
theorem law_state (A : Option Addr) (n c : Nat) (ps : List Pr) (s : ByteArray) (w : World) (h : Sp2 w A n c ps) (hf : Fit ps) (hs : s.size ≤ 140737488351232) (hz : (txTo ps n).length ≤ 140737488351232) (hm : MaxSet w) :
    Calls Tryd.prog 5 #[.slice A n c, .string s] w fun e w' => e = .returned (.bool true) ∧ Below w.heap.size w w' := by
  obtain ⟨l, rfl⟩ : ∃ l, s = tx l := ⟨s.data.toList, tx_of s⟩
  rw [tx_size] at hs
  have CT := hide (fun w (h : Sp2 w A n c ps) => rtext_any h hz)
  by_cases h0 : prErr n ps = 0
  · have CW := hide (fun w (h : Sp2 w A n c ps) => write_ok h hf h0 hz)
    by_cases h2 : 200 < (txTo ps n).length
    · rw [show wrT (txTo ps n) = [] from if_pos h2, show wrE (txTo ps n) = 2 from if_pos h2] at CW
      exact law_state_of h hf hs hm h0 CW CT (.inr (.inl ⟨rfl, h2, rfl, rfl⟩))
    · rw [show wrT (txTo ps n) = txTo ps n from if_neg h2, show wrE (txTo ps n) = 0 from if_neg h2] at CW
      exact law_state_of h hf hs hm h0 CW CT (.inr (.inr ⟨rfl, h2, rfl, rfl⟩))
  · exact law_state_of h hf hs hm rfl (hide (fun w (h : Sp2 w A n c ps) => write_bad h hf rfl h0)) CT (.inl ⟨h0, rfl, rfl⟩)
end Go.Proofs.YtkliebhpdcjdgaaDoor
