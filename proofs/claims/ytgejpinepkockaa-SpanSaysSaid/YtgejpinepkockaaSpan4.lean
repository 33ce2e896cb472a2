/-
  span.Mend, culref.Under: the walks. Conditions: the slices read as lists.
-/
import Derived.Test.YtgejpinepkockaaSpan3
namespace Go.Proofs.Ytgejpinepkockaa
open Go.RowKit

theorem T_span : ElemT Try.prog 72 83 (.agg #[.int .i64 0, .int .i64 0]) 2 16 := ⟨Try.underlying72, by kernel_rfl, rfl, by decide⟩
theorem ups_of {ps : List (Int × Int)} {n : Nat} (hl : ps.length = n) (hok : okTo (spanOk ps) n = true) : Ups ps := by
  intro j u l h
  exact (spanOk_true hok (by rw [← hl]; exact (List.getElem?_eq_some_iff.1 h).1) h).2.1
theorem Rch.unfold {ps : List (Int × Int)} {c k : Nat} {u l : Int} (hc : ps[c]? = some (u, l)) : Rch ps 0 c k ↔ c = k ∨ (0 ≤ u ∧ Rch ps 0 u.toNat k) := by
  constructor
  · intro h
    cases h with
    | here => exact .inl rfl
    | up h1 h2 h3 =>
      rw [hc] at h2
      injection h2 with h2
      injection h2 with h2a h2b
      subst h2a
      exact .inr ⟨by omega, h3⟩
  · rintro (rfl | ⟨h1, h2⟩)
    · exact .here _
    · obtain ⟨v, rfl⟩ := Int.eq_ofNat_of_zero_le h1
      exact .up (Nat.zero_le _) hc h2
def MendRet (w : World) (n : Nat) (ps : List (Int × Int)) (e : Ending) (w' : World) : Prop :=
  ∃ A c, e = .returned (.tuple #[.slice A n c, .int .i64 0]) ∧ Own w' w.heap.size 83 2 A n c (prs ps) ∧ Below w.heap.size w w'
section
variable {A : Option Addr} {n c : Nat} {ps : List (Int × Int)} {w : World}
set_option maxRecDepth 20000 in
set_option maxHeartbeats 1600000 in
theorem under_any (h : Sp w A n c ps) (hok : okTo (spanOk ps) n = true) (j k : Nat) (hj : j < n) (b : Bool) (hb : b = true ↔ Rch ps 0 j k) :
    Calls Try.prog 63 #[.slice A n c, .int .i64 j, .int .i64 k] w fun e w' => e = .returned (.bool b) ∧ w = w' := by
  have hm := h.len_max
  have HB := hide hb
  have HOK := hide hok
  clear hb hok
  go_enter Try.func63, Try.ntmps63
  go_wp2_with fail
  go_loop [1] (fun i => ∃ x : Int, -1 ≤ x ∧ x < (n : Int) ∧ i = .int .i64 x ∧ (b = true ↔ 0 ≤ x ∧ Rch ps 0 x.toNat k)) (fun i => (intOf i + 1).toNat)
  case atStart => exact ⟨j, by omega, by omega, rfl, by rw [HB.out, Int.toNat_natCast]; exact ⟨fun h => ⟨by omega, h⟩, fun h => h.2⟩⟩
  case round =>
    obtain ⟨x, x1, x2, rfl, hx⟩ := hrel
    have HX := hide hx
    clear hx
    by_cases x0 : 0 ≤ x
    · obtain ⟨y, rfl⟩ := Int.eq_ofNat_of_zero_le x0
      obtain ⟨ad, ⟨u, l⟩, rfl, hbk, hp, hc0, hc1⟩ := h.pcell (j := y) (by omega)
      obtain ⟨a1, a2, a3, a4⟩ := spanOk_true HOK.out (by omega) hp
      have HU := hide (Rch.unfold (k := k) hp)
      dsimp only at hc0 hc1
      clear hp
      by_cases e : y = k
      · have B := hide (show b = true from HX.out.2 ⟨x0, by rw [Int.toNat_natCast]; exact HU.out.2 (.inl e)⟩)
        have t1 : ((y : Int) == (k : Int)) = true := by simp [e]
        clear e
        go_wp2_with fail
        go_ret
        exact ⟨by rw [B.out]; rfl, rfl⟩
      · have t1 : ((y : Int) == (k : Int)) = false := by simp; omega
        have hn : b = true ↔ 0 ≤ u ∧ Rch ps 0 u.toNat k := by
          rw [HX.out, Int.toNat_natCast, HU.out]
          exact ⟨fun h => h.2.resolve_left e, fun h => ⟨x0, .inr h⟩⟩
        have HN := hide hn
        clear e hn
        go_wp2_with fail
        go_round
        case rel => exact ⟨u, by omega, by omega, rfl, HN.out⟩
        case measure => simp [intOf]; omega
    · have B := hide (show b = false from by cases b with
        | false => rfl
        | true => exact absurd (HX.out.1 rfl).1 x0)
      have x3 : x < 0 := by omega
      clear x0
      go_wp2_with fail
      go_ret
      exact ⟨by rw [B.out]; rfl, rfl⟩
set_option maxRecDepth 20000 in
set_option maxHeartbeats 1600000 in
theorem mend_bad (h : Sp w A n c ps) {E : Int} (he : spanErr n ps = E) (h0 : ¬ E = 0) :
    Calls Try.prog 58 #[.slice A n c] w fun e w' => e = .returned (.tuple #[.slice none 0 0, .int .i64 E]) ∧ Below w.heap.size w w' := by
  have t1 : (E != 0) = true := by simpa using h0
  have H := hide he
  clear he h0
  go_enter Try.func58, Try.ntmps58
  go_wp2_with fail
  refine (spanCheck_is h H.out).mono ?_
  rintro e w1 ⟨rfl, hb1⟩
  go_wp2_with fail
  go_ret2
  exact ⟨rfl, hb1⟩
set_option maxRecDepth 20000 in
set_option maxHeartbeats 1600000 in
theorem mend_ok (h : Sp w A n c ps) (he : spanErr n ps = 0) :
    Calls Try.prog 58 #[.slice A n c] w (MendRet w n (mended ps (mendTo ps n n))) := by
  obtain ⟨g1, g2⟩ := spanErr_zero he
  have hm := h.len_max
  have HL := hide h.plen
  have HOK := hide g2
  have H := hide he
  clear he g2
  go_enter Try.func58, Try.ntmps58
  go_wp2_with fail
  refine (spanCheck_is h H.out).mono ?_
  rintro e w1 ⟨rfl, hb1⟩
  go_wp2_with (at_builtin; refine wpList_append_sl T_span rfl _ _ rfl (by rfl) (by rfl) (Own.nil w1 w1.heap.size _ _) (h.on hb1) (prs_one _) (by simp only [maxLen]; omega) (by omega) (Nat.le_refl _) ?_; intro A2 c2 w2 ap)
  have own2 := ap.own
  have hb2 := ap.below
  rw [List.nil_append] at own2
  rw [Nat.zero_add] at own2
  have z1 := hb1.size
  have hb12 : Below w.heap.size w w2 := below_on hb1 hb2
  clear ap
  go_loopw [6] (fun i wr => ∃ d : Nat, d ≤ n ∧ i = .int .i64 ((n : Int) - 1 - d) ∧ Own wr w1.heap.size 83 2 A2 n c2 (prs (mended ps (mendTo ps n d))) ∧ Below w.heap.size w wr) (fun i _ => (intOf i + 1).toNat)
  case atStart => exact ⟨0, Nat.zero_le _, by simp, by rw [show mended ps (mendTo ps n 0) = ps from mended_self ps]; exact own2, hb12⟩
  case round =>
    clear own2 hb12
    obtain ⟨d, hd, rfl, hown, hb⟩ := hrel
    by_cases hlt : d < n
    · obtain ⟨m, hm'⟩ : ∃ m : Nat, m = n - (d + 1) := ⟨_, rfl⟩
      have em : (n : Int) - 1 - (d : Int) = (m : Int) := by omega
      rw [em]
      have hmn : m < n := by omega
      obtain ⟨p, hp⟩ : ∃ p, ps[m]? = some p := ⟨_, List.getElem?_eq_getElem (by rw [HL.out]; exact hmn)⟩
      obtain ⟨u, l⟩ := p
      obtain ⟨a1, a2, a3, a4⟩ := spanOk_true HOK.out hmn hp
      have hLl : (mendTo ps n d).length = n := by rw [mendTo_len, HL.out]
      obtain ⟨L, hL⟩ : ∃ L, mendTo ps n d = L := ⟨_, rfl⟩
      obtain ⟨x, hx⟩ : ∃ x, L[m]? = some x := ⟨_, List.getElem?_eq_getElem (by rw [← hL, hLl]; exact hmn)⟩
      have HS := hide (show mendTo ps n (d + 1) = if u < 0 then L else L.set u.toNat (min (L.getD u.toNat 0) x) by
        rw [mendTo, ← hm', mendStep, getD_of hp, hL, getD_of hx])
      rw [hL] at hown hLl
      obtain ⟨g, rfl, hg1, hg2⟩ := hown.addr (by omega)
      have c0 := hown.cell (prs_at0 (mended_at hp hx))
      have c1 := hown.cell (prs_at1 (mended_at hp hx))
      dsimp only at c0 c1
      have hdm : (n : Int) - 1 - ((d + 1 : Nat) : Int) = (m : Int) - 1 := by omega
      by_cases u0 : 0 ≤ u
      · obtain ⟨v, rfl⟩ := Int.eq_ofNat_of_zero_le u0
        obtain ⟨q, hq⟩ : ∃ q, ps[v]? = some q := ⟨_, List.getElem?_eq_getElem (by rw [HL.out]; omega)⟩
        obtain ⟨y, hy⟩ : ∃ y, L[v]? = some y := ⟨_, List.getElem?_eq_getElem (by rw [hLl]; omega)⟩
        have d1 := hown.cell (prs_at1 (mended_at hq hy))
        have f1 := hown.free (v * 2 + 1)
        dsimp only at d1
        have HS2 := hide (show mended ps (mendTo ps n (d + 1)) = (mended ps L).set v (q.1, min y x) by
          rw [HS.out, if_neg (by omega), Int.toNat_natCast, getD_of hy]; exact (mended_set hq _).symm)
        have hown2 := hown.set (v * 2 + 1) (.int .i64 (min y x))
        rw [prs_set1 (mended_at hq hy), ← HS2.out] at hown2
        have q1 : (v : Int) < (n : Int) := by omega
        clear hp hx hq hy hL hm'
        go_wp2_with fail
        go_region
        all_goals go_wp2_with fail
        refine ⟨⟨d + 1, by omega, by rw [hdm], ?_, by repeat' (first | assumption | with_reducible exact Below.refl _ _ | with_reducible apply Below.drew | with_reducible apply below_drewN | with_reducible apply below_alloc | with_reducible refine below_set ?_ ?_ _ | (simp only [World.size_alloc, World.heap_drewN]; omega) | (simp; omega))⟩, by simp [intOf]⟩
        rw [show (if x < y then x else y) = min y x from by rw [Int.min_def]; split <;> split <;> omega]
        exact hown2.drew
      · have HS2 := hide (show mended ps (mendTo ps n (d + 1)) = mended ps L by rw [HS.out, if_pos (by omega)])
        have u1 : u < 0 := by omega
        clear hp hx hL hm' u0
        go_wp2_with fail
        go_roundw
        case rel => exact ⟨d + 1, by omega, by rw [hdm], by rw [HS2.out]; exact hown, hb⟩
        case measure => simp [intOf]
    · obtain rfl : d = n := by omega
      rw [show (d : Int) - 1 - (d : Int) = -1 by omega]
      go_wp2_with fail
      go_ret2
      exact ⟨_, _, rfl, hown.mono z1, hb⟩
end
end Go.Proofs.Ytgejpinepkockaa
