/-
  board.Ask: the walk. Conditions: the slice reads as a list of rules; the texts' lengths.
-/
import Derived.Test.YtfopihlbdceepaaBoard8
import Derived.Test.YtfopihlbdceepaaPre
namespace Go.Proofs.Ytfopihlbdceepaa
open Go.RowKit Go.Shelf

section
variable {A : Option Addr} {n c : Nat} {l : List Rul} {w : World} {name : ByteArray}
set_option maxRecDepth 20000 in
set_option maxHeartbeats 3200000 in
theorem bask_bad (h : Sr w A n c l) (hf : FitR l) {E : Int} (hE : rlErr n l = E) (h0 : E ≠ 0) :
    Calls Try.prog 7 #[.slice A n c, .string name] w fun e w' => e = .returned (.tuple #[.int .i64 0, .int .i64 E]) ∧ Below w.heap.size w w' := by
  have t1 : (E != 0) = true := by simpa using h0
  have CC := hide (bcheck_any h hf)
  rw [hE] at CC
  clear hE h hf
  go_enter Try.func7, Try.ntmps7
  go_wp2_with fail
  refine CC.out.mono ?_
  rintro e w1 ⟨rfl, b1⟩
  go_wp2_with fail
  go_ret2
  exact ⟨rfl, b1⟩
set_option maxRecDepth 20000 in
set_option maxHeartbeats 3200000 in
theorem bask_long (h : Sr w A n c l) (hok : RlOk l) (hl : 200 < name.size) :
    Calls Try.prog 7 #[.slice A n c, .string name] w fun e w' => e = .returned (.tuple #[.int .i64 0, .int .i64 2]) ∧ Below w.heap.size w w' := by
  have CC := hide (bcheck_any h hok.fit)
  rw [rlErr_of h.rlen hok] at CC
  clear h hok
  go_enter Try.func7, Try.ntmps7
  go_wp2_with fail
  refine CC.out.mono ?_
  rintro e w1 ⟨rfl, b1⟩
  go_wp2_with fail
  go_ret2
  exact ⟨rfl, b1⟩
/-- The variable 'best'. -/
def bestV (o : Option Nat) : Int := match o with | none => -1 | some i => i
theorem bask_end (hb : Best l name l.length none) (h2 : ¬ 200 < name.size) : askOut l name = (0, 4) := by
  unfold askOut
  rw [if_neg h2, hb.none_ask _ (Nat.le_refl _), if_neg (by decide)]
theorem bask_end2 {i : Nat} {r : Rul} (hb : Best l name l.length (some i)) (hok : RlOk l) (h2 : ¬ 200 < name.size) (hr : l[i]? = some r) : askOut l name = (r.2.1, 0) := by
  obtain ⟨_, t, e1, e2, _⟩ := hb.some_ i rfl
  rw [hr] at e1
  injection e1 with e1
  subst e1
  unfold askOut
  rw [if_neg h2, hb.some_ask hok.up hr _ (Nat.le_refl _) ((hasPre_iff _ _).1 e2).1, if_pos (hok.small (List.mem_of_getElem? hr)).2]
set_option maxRecDepth 20000 in
set_option maxHeartbeats 6400000 in
theorem bask_ok (h : Sr w A n c l) (hok : RlOk l) (hl : ¬ 200 < name.size) :
    Calls Try.prog 7 #[.slice A n c, .string name] w fun e w' => e = .returned (.tuple #[.int .i64 (askOut l name).1, .int .i64 (askOut l name).2]) ∧ Below w.heap.size w w' := by
  have hm := h.len_max
  have CC := hide (bcheck_any h hok.fit)
  rw [rlErr_of h.rlen hok] at CC
  have HOK := hide hok
  have HLN := hide h.rlen
  have HL := hide hl
  clear hok
  go_enter Try.func7, Try.ntmps7
  go_wp2_with fail
  refine CC.out.mono ?_
  rintro e w1 ⟨rfl, b1⟩
  clear CC
  go_wp2_with fail
  go_loopw [7, 20] (fun bt i wr => ∃ (k : Nat) (o : Option Nat), k ≤ n ∧ i = .int .i64 k ∧ bt = .int .i64 (bestV o) ∧ Hid (Best l name k o) ∧ Below w.heap.size w wr) (fun _ i _ => n - (intOf i).toNat)
  case atStart => exact ⟨0, none, Nat.zero_le _, rfl, rfl, hide (Best.start _ _), b1⟩
  case round =>
    clear b1
    obtain ⟨k, o, hk, rfl, rfl, HB, hb⟩ := hrel
    by_cases hlt : k < n
    · obtain ⟨ad, r, rfl, hbk, hr, hc0, hc1, hc2⟩ := (h.below hb).rcell hlt
      have HR := hide hr
      have hsz := (HOK.out.small (List.mem_of_getElem? hr)).1
      clear hr
      have hb2 : Below w.heap.size w (wr.alloc (.cells #[.string r.1, .int .i64 r.2.1, .int .i64 r.2.2] 24)) := below_alloc hb _
      have bp := Blk.new wr 24 #[.string r.1, .int .i64 r.2.1, .int .i64 r.2.2]
      have q0 := bp.at_ (i := 0) (u := .string r.1) rfl
      have HPR := hide (hpre_any name r.1)
      have hab : ad.block < w.heap.size := hbk
      have hwr := hb.size
      cases hpr : hasPre name r.1 with
      | false =>
        rw [hpr] at HPR
        have HN := hide (HB.out.skip HR.out hpr)
        clear hpr
        go_upto_region 10 with fail
        clear bp hc0 hc1 hc2
        generalize (wr.alloc (.cells #[.string r.1, .int .i64 r.2.1, .int .i64 r.2.2] 24)) = wz at q0 hb2 ⊢
        go_quiet ((go_at_call 27; exact Calls.quiet_of_same ((HPR.out _).mono fun _ _ ⟨he, hw⟩ => ⟨he, hw.symm⟩)))
        go_wp2_with fail
        go_roundw
        case rel => exact ⟨k + 1, o, by omega, by go_num, rfl, HN, by repeat' (first | assumption | with_reducible exact Below.refl _ _ | with_reducible apply Below.drew | with_reducible apply below_drewN | with_reducible apply below_alloc | with_reducible refine below_set ?_ ?_ _ | (simp only [World.size_alloc, World.heap_drewN]; omega) | (simp; omega))⟩
        case measure => simp [intOf]; omega
      | true =>
        rw [hpr] at HPR
        cases o with
        | none =>
          have HN := hide (HB.out.first HR.out hpr)
          clear hpr
          rw [show bestV none = -1 from rfl]
          go_upto_region 10 with fail
          clear bp hc0 hc1 hc2
          generalize (wr.alloc (.cells #[.string r.1, .int .i64 r.2.1, .int .i64 r.2.2] 24)) = wz at q0 hb2 ⊢
          go_quiet ((go_at_call 27; exact Calls.quiet_of_same ((HPR.out _).mono fun _ _ ⟨he, hw⟩ => ⟨he, hw.symm⟩)))
          go_wp2_with fail
          go_roundw
          case rel => exact ⟨k + 1, some k, by omega, by go_num, rfl, HN, by repeat' (first | assumption | with_reducible exact Below.refl _ _ | with_reducible apply Below.drew | with_reducible apply below_drewN | with_reducible apply below_alloc | with_reducible refine below_set ?_ ?_ _ | (simp only [World.size_alloc, World.heap_drewN]; omega) | (simp; omega))⟩
          case measure => simp [intOf]; omega
        | some i =>
          rw [show bestV (some i) = (i : Int) from rfl]
          have hik := (HB.out.some_ i rfl).1
          obtain ⟨ad', s, had, hbk', hs, hs0, hs1, hs2⟩ := (h.below hb2).rcell (j := i) (by omega)
          injection had with had
          subst had
          have HSS := hide hs
          have hin : i < n := by omega
          have hss := (HOK.out.small (List.mem_of_getElem? hs)).1
          clear hs hs1 hs2
          have t0 : ¬ (i : Int) < 0 := by omega
          by_cases hgt : s.1.size < r.1.size
          · have HN := hide (HB.out.more HR.out hpr HSS.out hgt)
            clear hpr
            go_upto_region 10 with fail
            clear bp hc0 hc1 hc2
            generalize (wr.alloc (.cells #[.string r.1, .int .i64 r.2.1, .int .i64 r.2.2] 24)) = wz at q0 hb2 hs0 ⊢
            go_quiet ((go_at_call 27; exact Calls.quiet_of_same ((HPR.out _).mono fun _ _ ⟨he, hw⟩ => ⟨he, hw.symm⟩)))
            go_wp2_with fail
            go_roundw
            case rel => exact ⟨k + 1, some k, by omega, by go_num, rfl, HN, by repeat' (first | assumption | with_reducible exact Below.refl _ _ | with_reducible apply Below.drew | with_reducible apply below_drewN | with_reducible apply below_alloc | with_reducible refine below_set ?_ ?_ _ | (simp only [World.size_alloc, World.heap_drewN]; omega) | (simp; omega))⟩
            case measure => simp [intOf]; omega
          · have HN := hide (HB.out.keep HR.out HSS.out (by omega))
            clear hpr
            go_upto_region 10 with fail
            clear bp hc0 hc1 hc2
            generalize (wr.alloc (.cells #[.string r.1, .int .i64 r.2.1, .int .i64 r.2.2] 24)) = wz at q0 hb2 hs0 ⊢
            go_quiet ((go_at_call 27; exact Calls.quiet_of_same ((HPR.out _).mono fun _ _ ⟨he, hw⟩ => ⟨he, hw.symm⟩)))
            go_wp2_with fail
            go_roundw
            case rel => exact ⟨k + 1, some i, by omega, by go_num, rfl, HN, by repeat' (first | assumption | with_reducible exact Below.refl _ _ | with_reducible apply Below.drew | with_reducible apply below_drewN | with_reducible apply below_alloc | with_reducible refine below_set ?_ ?_ _ | (simp only [World.size_alloc, World.heap_drewN]; omega) | (simp; omega))⟩
            case measure => simp [intOf]; omega
    · obtain rfl : k = n := by omega
      cases o with
      | none =>
        have HE := hide (bask_end (by rw [HLN.out]; exact HB.out) HL.out)
        rw [show bestV none = -1 from rfl]
        go_wp2_with fail
        rw [HE.out]
        go_ret2
        exact ⟨rfl, hb⟩
      | some i =>
        have hik := (HB.out.some_ i rfl).1
        obtain ⟨ad', s, rfl, hbk', hs, hs0, hs1, hs2⟩ := (h.below hb).rcell (j := i) (by omega)
        have HE := hide (bask_end2 (by rw [HLN.out]; exact HB.out) HOK.out HL.out hs)
        clear hs
        rw [show bestV (some i) = (i : Int) from rfl]
        have t0 : ¬ (i : Int) < 0 := by omega
        go_wp2_with fail
        rw [HE.out]
        go_ret2
        exact ⟨rfl, hb⟩
end
end Go.Proofs.Ytfopihlbdceepaa
