/-
  span.Whole, span.Count, span.Mend, culref.Under: the walks. Conditions: the slices read as lists.
-/
import Derived.Test.YtgejpinepkockaaSpan2
import Derived.Test.YtgejpinepkockaaOwn2
import Derived.RegionTactic
import Derived.BigRegion
namespace Go.Proofs.Ytgejpinepkockaa
open Go.RowKit

/-- Is the parent of the k-th span kept, if it is? -/
def wholeOk (ps : List (Int × Int)) (bs : List Bool) (k : Nat) : Bool := !(bs.getD k false && decide (0 ≤ (ps.getD k (0, 0)).1) && !bs.getD (ps.getD k (0, 0)).1.toNat false)
theorem cell_past {wr : World} {ad : Addr} {k : Nat} {v : Value} (hb : ad.block < wr.heap.size) (h : wr.cell? (ad.add k) = some v) : ∀ o : Obj, (wr.alloc o).cell? (ad.add k) = some v :=
  fun o => (World.cell?_alloc_lt wr o _ (by rw [add_block]; exact hb)).trans h
theorem wholeOk_is {ps : List (Int × Int)} {bs : List Bool} {k : Nat} {u l : Int} {b : Bool} (hp : ps[k]? = some (u, l)) (hb : bs[k]? = some b) : wholeOk ps bs k = !(b && decide (0 ≤ u) && !bs.getD u.toNat false) := by
  unfold wholeOk; rw [getD_of hp, getD_of hb]
def wcErr (n m : Nat) (ps : List (Int × Int)) : Int := if spanErr n ps ≠ 0 then spanErr n ps else if m ≠ n then 7 else 0
def countTo (ps : List (Int × Int)) (bs : List Bool) : Nat → Int
  | 0 => 0
  | k + 1 => if bs.getD k false = true then countTo ps bs k + 2 ^ (ps.getD k (0, 0)).2.toNat else countTo ps bs k
theorem countTo_bound {ps : List (Int × Int)} {bs : List Bool} {n : Nat} (hl : ps.length = n) (hok : okTo (spanOk ps) n = true) : ∀ k, k ≤ n → 0 ≤ countTo ps bs k ∧ countTo ps bs k ≤ 1048576 * (k : Int)
  | 0, _ => by simp [countTo]
  | k + 1, hk => by
    have ih := countTo_bound (bs := bs) hl hok k (by omega)
    have hp : ps[k]? = some (ps.getD k (0, 0)) := by rw [List.getD, List.getElem?_eq_getElem (by omega)]; rfl
    obtain ⟨⟨u, l⟩, hul⟩ : ∃ q, ps.getD k (0, 0) = q := ⟨_, rfl⟩
    rw [hul] at hp
    have h1 := spanOk_true hok (show k < n by omega) hp
    have h2 := pow_bounds (l := l.toNat) (by omega)
    rw [countTo, hul]
    dsimp only
    split <;> omega
section
variable {A B : Option Addr} {n c m d : Nat} {ps : List (Int × Int)} {bs : List Bool} {w : World}
set_option maxRecDepth 20000 in
set_option maxHeartbeats 1600000 in
theorem whole_bad (h : Sp w A n c ps) (hm : m ≤ 9223372036854775807) {E : Int} (he : wcErr n m ps = E) (h0 : ¬ E = 0) :
    Calls Try.prog 57 #[.slice A n c, .slice B m d] w fun e w' => e = .returned (.tuple #[.bool false, .int .i64 E]) ∧ Below w.heap.size w w' := by
  have hn := h.len_max
  by_cases e0 : spanErr n ps = 0
  · have e1 : wcErr n m ps = if m ≠ n then 7 else 0 := by unfold wcErr; rw [if_neg (by simpa using e0)]
    by_cases hmn : m = n
    · rw [e1, if_neg (by simpa using hmn)] at he
      exact absurd he.symm h0
    · rw [e1, if_pos hmn] at he
      subst he
      have H := hide e0
      have t1 : ((m : Int) != (n : Int)) = true := by simp; omega
      clear e1 e0 h0
      go_enter Try.func57, Try.ntmps57
      go_wp2_with fail
      refine (spanCheck_is h H.out).mono ?_
      rintro e w1 ⟨rfl, hb1⟩
      go_wp2_with fail
      go_ret2
      exact ⟨rfl, hb1⟩
  · have e1 : wcErr n m ps = spanErr n ps := by unfold wcErr; rw [if_pos e0]
    rw [e1] at he
    have t1 : (E != 0) = true := by simpa using h0
    have H := hide he
    clear he h0 e0 e1
    go_enter Try.func57, Try.ntmps57
    go_wp2_with fail
    refine (spanCheck_is h H.out).mono ?_
    rintro e w1 ⟨rfl, hb1⟩
    go_wp2_with fail
    go_ret2
    exact ⟨rfl, hb1⟩
set_option maxRecDepth 20000 in
set_option maxHeartbeats 1600000 in
theorem count_bad (h : Sp w A n c ps) (hm : m ≤ 9223372036854775807) {E : Int} (he : wcErr n m ps = E) (h0 : ¬ E = 0) :
    Calls Try.prog 59 #[.slice A n c, .slice B m d] w fun e w' => e = .returned (.tuple #[.int .i64 0, .int .i64 E]) ∧ Below w.heap.size w w' := by
  have hn := h.len_max
  by_cases e0 : spanErr n ps = 0
  · have e1 : wcErr n m ps = if m ≠ n then 7 else 0 := by unfold wcErr; rw [if_neg (by simpa using e0)]
    by_cases hmn : m = n
    · rw [e1, if_neg (by simpa using hmn)] at he
      exact absurd he.symm h0
    · rw [e1, if_pos hmn] at he
      subst he
      have H := hide e0
      have t1 : ((m : Int) != (n : Int)) = true := by simp; omega
      clear e1 e0 h0
      go_enter Try.func59, Try.ntmps59
      go_wp2_with fail
      refine (spanCheck_is h H.out).mono ?_
      rintro e w1 ⟨rfl, hb1⟩
      go_wp2_with fail
      go_ret2
      exact ⟨rfl, hb1⟩
  · have e1 : wcErr n m ps = spanErr n ps := by unfold wcErr; rw [if_pos e0]
    rw [e1] at he
    have t1 : (E != 0) = true := by simpa using h0
    have H := hide he
    clear he h0 e0 e1
    go_enter Try.func59, Try.ntmps59
    go_wp2_with fail
    refine (spanCheck_is h H.out).mono ?_
    rintro e w1 ⟨rfl, hb1⟩
    go_wp2_with fail
    go_ret2
    exact ⟨rfl, hb1⟩
set_option maxRecDepth 20000 in
set_option maxHeartbeats 1600000 in
theorem whole_ok (h : Sp w A n c ps) (hk : Sb w B n d bs) (he : spanErr n ps = 0) :
    Calls Try.prog 57 #[.slice A n c, .slice B n d] w fun e w' => e = .returned (.tuple #[.bool (okTo (wholeOk ps bs) n), .int .i64 0]) ∧ Below w.heap.size w w' := by
  obtain ⟨g1, g2⟩ := spanErr_zero he
  have hm := h.len_max
  have HOK := hide g2
  have H := hide he
  clear he g2
  go_enter Try.func57, Try.ntmps57
  go_wp2_with fail
  refine (spanCheck_is h H.out).mono ?_
  rintro e w1 ⟨rfl, hb1⟩
  go_wp2_with fail
  go_loopw [21] (fun i wr => ∃ k : Nat, k ≤ n ∧ i = .int .i64 k ∧ okTo (wholeOk ps bs) k = true ∧ Below w.heap.size w wr) (fun i _ => n - (intOf i).toNat)
  case atStart => exact ⟨0, Nat.zero_le _, rfl, rfl, hb1⟩
  case round =>
    obtain ⟨k, hkn, rfl, hok, hb⟩ := hrel
    have HW := hide hok
    clear hok
    by_cases hlt : k < n
    · obtain ⟨ad, ⟨u, l⟩, rfl, hbk, hp, hc0, hc1⟩ := (h.on hb).pcell hlt
      obtain ⟨ae, b, rfl, hbe, hb0, hcb⟩ := (hk.on hb).bcell hlt
      have hcbA := cell_past hbe hcb
      obtain ⟨a1, a2, a3, a4⟩ := spanOk_true HOK.out hlt hp
      have HC := hide (wholeOk_is hp hb0)
      dsimp only at hc0 hc1
      clear hp hb0
      cases b
      · have HN := hide (okTo_next HW.out (show wholeOk ps bs k = true by rw [HC.out]; rfl))
        go_wp2_with fail
        go_roundw
        case rel => exact ⟨k + 1, by omega, by go_num, HN.out, by repeat' (first | assumption | with_reducible exact Below.refl _ _ | with_reducible apply Below.drew | with_reducible apply below_drewN | with_reducible apply below_alloc | with_reducible refine below_set ?_ ?_ _ | (simp only [World.size_alloc, World.heap_drewN]; omega) | (simp; omega))⟩
        case measure => simp [intOf]; omega
      · by_cases u0 : 0 ≤ u
        · obtain ⟨un, rfl⟩ := Int.eq_ofNat_of_zero_le u0
          obtain ⟨af, b2, eaf, hbf, hb2, hcb2⟩ := (hk.on hb).bcell (j := un) (by omega)
          injection eaf with eaf
          subst eaf
          have hcbB := cell_past hbf hcb2
          have HC2 := hide (show wholeOk ps bs k = b2 by rw [HC.out, Int.toNat_natCast, getD_of hb2]; simp)
          have q1 : (un : Int) < (n : Int) := by omega
          clear hb2
          cases b2
          · have B := hide (show okTo (wholeOk ps bs) n = false from okTo_bad HC2.out n hlt)
            go_wp2_with fail
            go_ret2
            exact ⟨by rw [B.out]; rfl, by repeat' (first | assumption | with_reducible exact Below.refl _ _ | with_reducible apply Below.drew | with_reducible apply below_drewN | with_reducible apply below_alloc | with_reducible refine below_set ?_ ?_ _ | (simp only [World.size_alloc, World.heap_drewN]; omega) | (simp; omega))⟩
          · have HN := hide (okTo_next HW.out HC2.out)
            go_wp2_with fail
            go_roundw
            case rel => exact ⟨k + 1, by omega, by go_num, HN.out, by repeat' (first | assumption | with_reducible exact Below.refl _ _ | with_reducible apply Below.drew | with_reducible apply below_drewN | with_reducible apply below_alloc | with_reducible refine below_set ?_ ?_ _ | (simp only [World.size_alloc, World.heap_drewN]; omega) | (simp; omega))⟩
            case measure => simp [intOf]; omega
        · have HN := hide (okTo_next HW.out (show wholeOk ps bs k = true by rw [HC.out, decide_eq_false u0]; rfl))
          have u1 : u < 0 := by omega
          clear u0
          go_wp2_with fail
          go_roundw
          case rel => exact ⟨k + 1, by omega, by go_num, HN.out, by repeat' (first | assumption | with_reducible exact Below.refl _ _ | with_reducible apply Below.drew | with_reducible apply below_drewN | with_reducible apply below_alloc | with_reducible refine below_set ?_ ?_ _ | (simp only [World.size_alloc, World.heap_drewN]; omega) | (simp; omega))⟩
          case measure => simp [intOf]; omega
    · obtain rfl : k = n := by omega
      go_wp2_with fail
      go_ret2
      exact ⟨by rw [HW.out]; rfl, hb⟩
set_option maxRecDepth 20000 in
set_option maxHeartbeats 1600000 in
theorem count_ok (h : Sp w A n c ps) (hk : Sb w B n d bs) (he : spanErr n ps = 0) :
    Calls Try.prog 59 #[.slice A n c, .slice B n d] w fun e w' => e = .returned (.tuple #[.int .i64 (countTo ps bs n), .int .i64 0]) ∧ Below w.heap.size w w' := by
  obtain ⟨g1, g2⟩ := spanErr_zero he
  have hm := h.len_max
  have HOK := hide g2
  have HL := hide h.plen
  have H := hide he
  clear he g2
  go_enter Try.func59, Try.ntmps59
  go_wp2_with fail
  refine (spanCheck_is h H.out).mono ?_
  rintro e w1 ⟨rfl, hb1⟩
  go_wp2_with fail
  go_loopw [7, 22] (fun o i wr => ∃ k : Nat, k ≤ n ∧ i = .int .i64 k ∧ o = .int .i64 (countTo ps bs k) ∧ Below w.heap.size w wr) (fun _ i _ => n - (intOf i).toNat)
  case atStart => exact ⟨0, Nat.zero_le _, rfl, rfl, hb1⟩
  case round =>
    obtain ⟨k, hkn, rfl, rfl, hb⟩ := hrel
    obtain ⟨o1, o2⟩ := countTo_bound (bs := bs) HL.out HOK.out k hkn
    by_cases hlt : k < n
    · obtain ⟨ad, ⟨u, l⟩, rfl, hbk, hp, hc0, hc1⟩ := (h.on hb).pcell hlt
      obtain ⟨ae, b, rfl, hbe, hb0, hcb⟩ := (hk.on hb).bcell hlt
      have hcbA := cell_past hbe hcb
      obtain ⟨a1, a2, a3, a4⟩ := spanOk_true HOK.out hlt hp
      obtain ⟨ln, rfl⟩ := Int.eq_ofNat_of_zero_le a3
      obtain ⟨p1, p2⟩ := pow_bounds (show ln ≤ 20 by omega)
      have HC := hide (show countTo ps bs (k + 1) = if b = true then countTo ps bs k + 2 ^ ln else countTo ps bs k by rw [countTo, getD_of hb0, getD_of hp, Int.toNat_natCast])
      dsimp only at hc0 hc1
      clear hp hb0
      obtain ⟨o, ho⟩ : ∃ o, countTo ps bs k = o := ⟨_, rfl⟩
      rw [ho] at o1 o2 HC ⊢
      clear ho
      cases b
      · have HN := hide (show countTo ps bs (k + 1) = o by rw [HC.out]; rfl)
        go_wp2_with fail
        go_roundw
        case rel => exact ⟨k + 1, by omega, by go_num, by rw [HN.out], by repeat' (first | assumption | with_reducible exact Below.refl _ _ | with_reducible apply Below.drew | with_reducible apply below_drewN | with_reducible apply below_alloc | with_reducible refine below_set ?_ ?_ _ | (simp only [World.size_alloc, World.heap_drewN]; omega) | (simp; omega))⟩
        case measure => simp [intOf]; omega
      · have HN := hide (show countTo ps bs (k + 1) = o + 2 ^ ln by rw [HC.out]; rfl)
        go_wp2_with fail
        go_roundw
        case rel => exact ⟨k + 1, by omega, by go_num, by rw [HN.out], by repeat' (first | assumption | with_reducible exact Below.refl _ _ | with_reducible apply Below.drew | with_reducible apply below_drewN | with_reducible apply below_alloc | with_reducible refine below_set ?_ ?_ _ | (simp only [World.size_alloc, World.heap_drewN]; omega) | (simp; omega))⟩
        case measure => simp [intOf]; omega
    · obtain rfl : k = n := by omega
      go_wp2_with fail
      go_ret2
      exact ⟨rfl, hb⟩
end
end Go.Proofs.Ytgejpinepkockaa
