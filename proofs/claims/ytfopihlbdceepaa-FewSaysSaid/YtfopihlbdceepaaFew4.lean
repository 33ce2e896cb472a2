/-
  few.Ask: the walk. Conditions: the counters read as a list of pairs.
-/
import Derived.Test.YtfopihlbdceepaaFew3
namespace Go.Proofs.Ytfopihlbdceepaa
open Go.RowKit

section
variable {A : Option Addr} {n c : Nat} {l : List Ct} {w : World} {K L key : Int}
set_option maxRecDepth 20000 in
set_option maxHeartbeats 3200000 in
theorem fask_bad (h : Sp w A n c l) {E : Int} (hE : fwErr K L n l = E) (h0 : E ≠ 0) :
    Calls Try.prog 15 #[.agg #[.int .i64 K, .int .i64 L, .slice A n c], .int .i64 key] w fun e w' => e = .returned (.tuple #[.int .i64 0, .int .i64 0, .int .i64 E]) ∧ Below w.heap.size w w' := by
  have t1 : (E != 0) = true := by simpa using h0
  have hb0 : Below w.heap.size w (w.alloc (.cells #[.int .i64 K, .int .i64 L, .slice A n c] 38)) := by repeat' (first | assumption | with_reducible exact Below.refl _ _ | with_reducible apply Below.drew | with_reducible apply below_drewN | with_reducible apply below_alloc | with_reducible refine below_set ?_ ?_ _ | (simp only [World.size_alloc, World.heap_drewN]; omega) | (simp; omega))
  have CC := hide (fcheck_any K L (h.on hb0))
  rw [hE] at CC
  clear hE h h0
  go_enter Try.func15, Try.ntmps15
  go_wp2_with fail
  refine CC.out.mono ?_
  rintro e w1 ⟨rfl, b1⟩
  go_wp2_with fail
  go_ret3
  exact ⟨rfl, below_on hb0 b1⟩
set_option maxRecDepth 20000 in
set_option maxHeartbeats 3200000 in
theorem fask_ok (h : Sp w A n c l) (hok : FwOk K L n l) (h0 : fwErr K L n l = 0) :
    Calls Try.prog 15 #[.agg #[.int .i64 K, .int .i64 L, .slice A n c], .int .i64 key] w fun e w' => e = .returned (.tuple #[.int .i64 (cnt l key), .int .i64 (cnt l key + L), .int .i64 0]) ∧ Below w.heap.size w w' := by
  have bp0 := Blk.new w 38 #[.int .i64 K, .int .i64 L, .slice A n c]
  have hb0 : Below w.heap.size w (w.alloc (.cells #[.int .i64 K, .int .i64 L, .slice A n c] 38)) := by repeat' (first | assumption | with_reducible exact Below.refl _ _ | with_reducible apply Below.drew | with_reducible apply below_drewN | with_reducible apply below_alloc | with_reducible refine below_set ?_ ?_ _ | (simp only [World.size_alloc, World.heap_drewN]; omega) | (simp; omega))
  have CC := hide (fcheck_any K L (h.on hb0))
  rw [h0] at CC
  have hn16 : n ≤ 16 := by have := hok.nk; have := hok.k2; omega
  have hl := h.plen
  have CF := hide (fun w' (hb : Below w.heap.size w w') => findC_any (key := key) (h.on hb) hok.up (by omega))
  have hpn : posC key l ≤ n := by rw [← hl]; exact posC_le key l
  have hcn := cnt_at key hok.up
  obtain ⟨P, hP⟩ : ∃ P, posC key l = P := ⟨_, rfl⟩
  rw [hP] at CF hpn hcn
  have b1 := hok.l1
  have b2 := hok.l2
  cases hh : hasC key l with
  | true =>
    rw [hh] at CF
    obtain ⟨s, hs, he⟩ : ∃ s, l[P]? = some s ∧ s.1 = key := by
      unfold hasC at hh
      rw [hP] at hh
      cases hs : l[P]? with
      | none => rw [hs] at hh; cases hh
      | some s => rw [hs] at hh; exact ⟨s, rfl, of_decide_eq_true hh⟩
    rw [hs] at hcn
    dsimp only at hcn
    rw [if_pos he] at hcn
    have hb := hok.cnt s (List.mem_of_getElem? hs)
    have hPn : P < n := by rw [← hl]; exact (List.getElem?_eq_some_iff.1 hs).1
    have HCN := hide hcn
    have HS := hide hs
    obtain ⟨s1, s2⟩ := s
    dsimp only at hb hcn
    have ez : IntKind.i64.wrap (s2 + L) = s2 + L := IntWalk.i64_in _ (by omega)
    clear hs hh hP he hcn hok h0 hl
    go_enter Try.func15, Try.ntmps15
    go_wp2_with fail
    refine CC.out.mono ?_
    rintro e w1 ⟨rfl, bel1⟩
    have bp1 := bp0.below bel1 bp0.lt
    have k1 := below_on hb0 bel1
    have q2 := bp1.at_ (i := 2) (u := .slice A n c) rfl
    clear bp0 hb0 bel1 CC
    go_wp2_with fail
    refine (CF.out _ k1).mono ?_
    rintro e w2 ⟨rfl, bel2⟩
    have bp2 := bp1.below bel2 bp1.lt
    have k2 := below_on k1 bel2
    obtain ⟨ad, s', rfl, hbk, hs', d0, d1⟩ := (h.below k2).pcell hPn
    rw [HS.out] at hs'
    injection hs' with hs'
    subst hs'
    dsimp only at d0 d1
    have p1 := bp2.at_ (i := 1) (u := .int .i64 L) rfl
    have p2 := bp2.at_ (i := 2) (u := .slice (some ad) n c) rfl
    clear q2 bp1 k1 bel2 CF
    go_wp2_with fail
    go_quiet (fail)
    go_wp2_with fail
    rw [HCN.out]
    go_ret3
    exact ⟨rfl, by repeat' (first | assumption | with_reducible exact Below.refl _ _ | with_reducible apply Below.drew | with_reducible apply below_drewN | with_reducible apply below_alloc | with_reducible refine below_set ?_ ?_ _ | (simp only [World.size_alloc, World.heap_drewN]; omega) | (simp; omega))⟩
  | false =>
    rw [hh] at CF
    have HCN := hide (show cnt l key = 0 by
      rw [hcn]
      cases hs : l[P]? with
      | none => rfl
      | some s =>
        dsimp only
        rw [if_neg]
        intro e
        unfold hasC at hh
        rw [hP, hs] at hh
        exact of_decide_eq_false hh e)
    have ez : IntKind.i64.wrap (0 + L) = 0 + L := IntWalk.i64_in _ (by omega)
    have ez2 : IntKind.i64.wrap L = L := IntWalk.i64_in _ (by omega)
    clear hh hP hcn hok h0 hl
    go_enter Try.func15, Try.ntmps15
    go_wp2_with fail
    refine CC.out.mono ?_
    rintro e w1 ⟨rfl, bel1⟩
    have bp1 := bp0.below bel1 bp0.lt
    have k1 := below_on hb0 bel1
    have q2 := bp1.at_ (i := 2) (u := .slice A n c) rfl
    clear bp0 hb0 bel1 CC
    go_wp2_with fail
    refine (CF.out _ k1).mono ?_
    rintro e w2 ⟨rfl, bel2⟩
    have bp2 := bp1.below bel2 bp1.lt
    have k2 := below_on k1 bel2
    have p1 := bp2.at_ (i := 1) (u := .int .i64 L) rfl
    clear q2 bp1 k1 bel2 CF
    go_wp2_with fail
    go_quiet (fail)
    go_wp2_with fail
    rw [HCN.out]
    go_ret3
    exact ⟨by simp, by repeat' (first | assumption | with_reducible exact Below.refl _ _ | with_reducible apply Below.drew | with_reducible apply below_drewN | with_reducible apply below_alloc | with_reducible refine below_set ?_ ?_ _ | (simp only [World.size_alloc, World.heap_drewN]; omega) | (simp; omega))⟩
end
end Go.Proofs.Ytfopihlbdceepaa
