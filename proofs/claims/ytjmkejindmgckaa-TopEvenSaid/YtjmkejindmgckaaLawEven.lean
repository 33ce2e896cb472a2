/-
  cultop.TopEven: the law. Condition: the slice reads as a list of numbers.
-/
import Derived.Test.YtjmkejindmgckaaNine
import Derived.Test.YtjmkejindmgckaaRepeat
import Derived.Test.YtjmkejindmgckaaCum3
import Derived.Deep.QuietTactic
import Derived.BigQuiet
namespace Go.Proofs.Ytjmkejindmgckaa
open Go.RowKit

theorem sum_is {A : Option Addr} {n c : Nat} {xs : List Int} {w : World} (h : Si w A n c xs) (hb : ∀ k, k ≤ n → -1000000000000000 ≤ wsum xs k ∧ wsum xs k ≤ 1000000000000000) {V : Int} (hV : wsum xs n = V) :
    Calls Try.prog 17 #[.slice A n c] w fun e w' => e = .returned (.int .i64 V) ∧ Below w.heap.size w w' := by
  have k := sum_ok h hb; rw [hV] at k; exact k
theorem even_is {A : Option Addr} {n c kk s S : Nat} {xs E : List Int} {w : World} (h : Si w A n c xs) (he : wErr n xs = 0) (hS : wsum xs n = (S : Int)) (k1 : 1 ≤ kk) (k2 : kk ≤ 1000) (s2 : s < S) (hE : evenTo xs (S : Int) (kk : Int) (s : Int) n kk = E) :
    Calls Try.prog 19 #[.slice A n c, .int .i64 kk, .int .i64 s] w (EvenRet w n E) := by
  have k := even_ok (k := (kk : Int)) (start := (s : Int)) h he (by omega) (by omega) (by omega) (by omega)
  rw [hS, Int.toNat_natCast, hE] at k
  exact k
theorem w64 {n : Int} (h1 : -9223372036854775808 ≤ n) (h2 : n ≤ 9223372036854775807) : wrap64 n = n := by unfold wrap64; omega
theorem oft_zero {l : List Int} {all : Int} {n k s m : Nat} (h : m < n) : (oft l all n k s 0)[m]? = some (sumTo (got l all k m) s) := by rw [oft_at h, if_neg (by omega)]
set_option maxRecDepth 100000 in
set_option maxHeartbeats 3200000 in
theorem law_even {A : Option Addr} {n c : Nat} {xs : List Int} {k0 : Int} {w : World} (h : Si w A n c xs) :
    Calls Try.prog 4 #[.slice A n c, .int .i64 k0] w fun e w' => e = .returned (.bool true) ∧ Below w.heap.size w w' := by
  have hm := h.len_max
  have hcap := h.cap
  obtain ⟨m0, hm0, hm6, hmn⟩ : ∃ m0 : Nat, min (n : Int) 6 = (m0 : Int) ∧ m0 ≤ 6 ∧ m0 ≤ n := by
    by_cases h6 : n ≤ 6
    · exact ⟨n, by omega, h6, Nat.le_refl _⟩
    · exact ⟨6, by omega, Nat.le_refl _, by omega⟩
  have ht := h.itake hmn
  go_enter Try.func4, Try.ntmps4
  go_wp2_with fail
  refine (begun_ok _).mono ?_
  rintro e w1 ⟨rfl, hb1⟩
  have ht1 := ht.on hb1
  go_wp2_with fail
  obtain ⟨B, hB⟩ : ∃ B, w1.heap.size = B := ⟨_, rfl⟩
  have own1 : Own (w1.alloc (.cells #[.int .i64 1] 3)) B 3 1 (some ⟨B, 0, none⟩) 1 1 (ints [1]) := by
    rw [← hB]; exact Own.of_blk (n := 1) (at_new _ _) (Nat.le_refl _) (by simp [maxLen]) rfl
  have hb12 : Below B w1 (w1.alloc (.cells #[.int .i64 1] 3)) := (Below.refl _ _).alloc (by omega) _
  have hz2 : B ≤ (w1.alloc (.cells #[.int .i64 1] 3)).heap.size := by rw [World.size_alloc]; omega
  rw [hB]
  rw [hB] at ht1
  have HB := hide hB
  clear hB
  go_loopw [5, 25] (fun v i wr => ∃ (k : Nat) (A' : Option Addr) (c' : Nat) (ws : List Int), k ≤ m0 ∧ i = .int .i64 k ∧ v = .slice A' (k + 1) c' ∧ Nine ws ∧ Own wr B 3 1 A' (k + 1) c' (ints ws) ∧ Below B w1 wr ∧ B ≤ wr.heap.size) (fun _ i _ => m0 - (intOf i).toNat)
  case atStart => exact ⟨0, some ⟨B, 0, none⟩, 1, [1], Nat.zero_le _, rfl, rfl, (by intro x hx; rw [List.mem_singleton] at hx; subst hx; omega), own1, hb12, hz2⟩
  case round =>
    clear own1 hb12 hz2
    obtain ⟨k, A', c', ws, hk, rfl, rfl, h9, own, hbr, hzr⟩ := hrel
    have H9 := hide h9
    clear h9
    by_cases hlt : k < m0
    · obtain ⟨ad, x, rfl, hbk, hx, hc⟩ := (ht1.below hbr).icell hlt
      clear hx
      go_wp2_with fail
      refine (within9 _ _).mono ?_
      rintro e w2 ⟨⟨p, hp, rfl⟩, rfl⟩
      go_wp2_with (at_builtin; refine wpList_append_sl T_int rfl _ _ rfl (by rfl) (by rfl) (own.alloc _) (Sl.lit (at_new _ _)) (by intro u hu; rw [List.mem_singleton] at hu; subst hu; rfl) (by simp only [maxLen]; omega) (by omega) (by rw [World.size_alloc]; omega) ?_; intro A3 c3 w3 ap)
      have own3 := ap.own
      have hb3 : Below B w1 w3 := (hbr.alloc (by omega) _).trans ap.below
      have hz3 : B ≤ w3.heap.size := Nat.le_trans (by rw [World.size_alloc]; omega) ap.below.size
      clear ap
      go_wp2_with fail
      go_roundw
      case rel => exact ⟨k + 1, A3, c3, ws ++ [1 + (p : Int)], by omega, by go_num, rfl, H9.out.snoc (by omega) (by omega), by rw [ints_append]; exact own3, hb3, hz3⟩
      case measure => simp [intOf]; omega
    · obtain rfl : k = m0 := by omega
      obtain ⟨m, hm1⟩ : ∃ m, k + 1 = m := ⟨_, rfl⟩
      rw [hm1] at own
      rw [hm1]
      have m1 : 1 ≤ m := by omega
      have m7 : m ≤ 7 := by omega
      have hkw := below_on hb1 (hbr.mono (by rw [HB.out]; exact Nat.le_refl _) : Below w1.heap.size w1 wr)
      clear hm1 hm0 ht1 ht
      have hl := own.sl.ilen
      have HS0 := hide (fun i (hi : i ≤ m) => H9.out.sum i (by omega))
      have HER := hide (H9.out.err hl (by omega) (by omega))
      obtain ⟨S, hS⟩ : ∃ S : Nat, wsum ws m = (S : Int) := ⟨(wsum ws m).toNat, by have := H9.out.sum m (by omega); omega⟩
      have HSB : 1 ≤ S ∧ S ≤ 63 := by have := H9.out.sum m (by omega); omega
      obtain ⟨S1, S63⟩ := HSB
      have HS := hide hS
      clear hS
      have HL := hide hl
      clear hl
      go_wp2_with fail
      refine (within9 _ _).mono ?_
      rintro e w2 ⟨⟨p, hp, rfl⟩, rfl⟩
      go_wp2_with fail
      obtain ⟨kk, hkk⟩ : ∃ kk : Nat, 1 + (p : Int) = (kk : Int) := ⟨p + 1, by omega⟩
      rw [hkk]
      have k1 : 1 ≤ kk := by omega
      have k9 : kk ≤ 9 := by omega
      clear hkk hp
      refine (sum_is own.sl (fun i hi => by have := HS0.out i hi; omega) HS.out).mono ?_
      rintro e w4 ⟨rfl, hb4⟩
      have own4 := own.below hb4 (Nat.le_refl _)
      have hk4 := below_on hkw hb4
      clear own hbr hzr
      go_wp2_with fail
      refine (repeat_ok (Blk.new _ _ _) m1 (by omega)).mono ?_
      rintro e w5 ⟨A5, rfl, own5, hb5⟩
      obtain ⟨B5, hB5⟩ : ∃ B5, w4.heap.size = B5 := ⟨_, rfl⟩
      have hk45 : Below B5 w4 w5 := by rw [← hB5]; exact below_on (by repeat' (first | assumption | with_reducible exact Below.refl _ _ | with_reducible apply Below.drew | with_reducible apply below_drewN | with_reducible apply below_alloc | with_reducible refine below_set ?_ ?_ _ | (simp only [World.size_alloc, World.heap_drewN]; omega) | (simp; omega))) hb5
      rw [World.size_alloc, hB5] at own5
      obtain ⟨g5, rfl, g5a, g5b⟩ := own5.addr (by omega)
      rw [← oft_start ws (S : Int) m kk] at own5
      obtain ⟨gw, rfl, gwa, gwb⟩ := own4.addr (by omega)
      rw [hB5] at gwb
      have hg5 : ¬ gw = g5 := by omega
      clear hb5
      go_wp2_with fail
      go_loopw [46] (fun i wr => ∃ s : Nat, s ≤ S ∧ i = .int .i64 s ∧ Own wr (B5 + 1) 3 1 (some ⟨g5, 0, none⟩) m m (ints (oft ws (S : Int) m kk s 0)) ∧ Below B5 w4 wr) (fun i _ => S - (intOf i).toNat)
      case atStart => exact ⟨0, Nat.zero_le _, rfl, own5, hk45⟩
      case round =>
        clear own5 hk45 g5b
        obtain ⟨s, hs, rfl, own5, hk45⟩ := hrel
        have g5b := (own5.blk (g := g5) rfl).2
        have ow := own4.below hk45 (by rw [hB5]; exact Nat.le_refl _)
        by_cases hlt2 : s < S
        · obtain ⟨E, hE⟩ : ∃ E, evenTo ws (S : Int) (kk : Int) (s : Int) m kk = E := ⟨_, rfl⟩
          have HEP := hide (fun i (hi : i ≤ m) => by have := got_part ws (S : Int) kk s m hi; rwa [hE] at this)
          have HEA := hide (by have := got_all (k := kk) HS.out hlt2; rwa [hE] at this)
          have HE := hide hE
          clear hE
          go_wp2_with fail
          refine (even_is ow.sl HER.out HS.out k1 (by omega) hlt2 HE.out).mono ?_
          rintro e w6 ⟨A6, c6, rfl, own6, hb6⟩
          have own5b := own5.below hb6 (Nat.le_refl _)
          have hk46 : Below B5 w4 w6 := hk45.trans (hb6.mono (by omega))
          have tk : ((kk : Int) != (kk : Int)) = false := by simp
          have tm : ((m : Int) != (m : Int)) = false := by simp
          go_wp2_with fail
          refine (sum_is own6.sl (fun i hi => by have := HEP.out i hi; omega) HEA.out).mono ?_
          rintro e w7 ⟨rfl, hb7⟩
          have own5c := own5b.below hb7 (Nat.le_refl _)
          have own6c := own6.below hb7 (Nat.le_refl _)
          have hk47 : Below B5 w4 w7 := hk46.trans (hb7.mono (by have := hb6.size; omega))
          obtain ⟨g6, rfl, g6a, g6b⟩ := own6c.addr (by omega)
          clear own5 own5b own6 hk45 hk46 hb6 hb7
          obtain ⟨B6, hB6⟩ : ∃ B6, wr.heap.size = B6 := ⟨_, rfl⟩
          rw [hB6] at own6c g6a g5b
          have h56 : ¬ g5 = g6 := by omega
          obtain ⟨wo, rfl⟩ : ∃ wo : World, wo = wr := ⟨_, rfl⟩
          clear tk tm
          go_wp2_with fail
          go_loopw [73] (fun i wi => ∃ j : Nat, j ≤ m ∧ i = .int .i64 j ∧ Own wi (B5 + 1) 3 1 (some ⟨g5, 0, none⟩) m m (ints (oft ws (S : Int) m kk s j)) ∧ Own wi B6 3 1 (some ⟨g6, 0, none⟩) m c6 (ints E) ∧ Below B5 w4 wi) (fun i _ => m - (intOf i).toNat)
          case atStart => exact ⟨0, Nat.zero_le _, rfl, own5c, own6c, hk47⟩
          case round =>
            clear own5c own6c hk47 g6b
            obtain ⟨j, hj, rfl, own5, own6, hk⟩ := hrel
            by_cases hlt3 : j < m
            · obtain ⟨T, hT⟩ : ∃ T, sumTo (got ws (S : Int) kk j) s = T := ⟨_, rfl⟩
              obtain ⟨G, hG⟩ : ∃ G, got ws (S : Int) kk j s = G := ⟨_, rfl⟩
              have hTl := got_lim ws (S : Int) (i := j) k9 (show s ≤ 100 by omega)
              have hGl := got_range ws (S : Int) kk j s
              rw [hT] at hTl
              rw [hG] at hGl
              obtain ⟨T1, T2⟩ := hTl
              obtain ⟨G1, G2⟩ := hGl
              have q5 := own5.cell (ints_at (oft_here (l := ws) (all := (S : Int)) (k := kk) (s := s) hlt3))
              rw [hT] at q5
              have u5 := own5.free j
              have q6 := own6.cell (ints_at (show E[j]? = some G by rw [← HE.out, ← hG]; exact got_at hlt3))
              have HN := hide (oft_next (l := ws) (all := (S : Int)) (k := kk) (s := s) hlt3)
              rw [hT, hG] at HN
              clear hT hG
              have hTG : IntKind.i64.wrap (T + G) = T + G := IntWalk.i64_in _ (by omega)
              go_wp2_with fail
              go_roundw
              case rel => exact ⟨j + 1, by omega, by go_num, by rw [← HN.out, ints_set]; exact own5.set j _, own6.low (p := ⟨g5, j, none⟩) (by dsimp only; omega) _, hk.setCell (p := ⟨g5, j, none⟩) (by dsimp only; omega) _⟩
              case measure => simp [intOf]; omega
            · obtain rfl : j = m := by omega
              go_wp2_with fail
              go_roundw
              case rel => exact ⟨s + 1, by omega, by go_num, by rw [← oft_round]; exact own5, hk⟩
              case measure => simp [intOf]; omega
        · obtain rfl : s = S := by omega
          clear hlt2 hs
          obtain ⟨wo, rfl⟩ : ∃ wo : World, wo = wr := ⟨_, rfl⟩
          go_wp2_with fail
          go_loopw [89] (fun i wi => ∃ j : Nat, j ≤ m ∧ i = .int .i64 j ∧ ∃ q, wi = wo.drewN q) (fun i _ => m - (intOf i).toNat)
          case atStart => exact ⟨0, Nat.zero_le _, rfl, 0, rfl⟩
          case round =>
            obtain ⟨j, hj, rfl, q, rfl⟩ := hrel
            by_cases hlt3 : j < m
            · have hx := getD_at (l := ws) (k := j) (by rw [HL.out]; exact hlt3)
              obtain ⟨x, hxe⟩ : ∃ x, ws.getD j 0 = x := ⟨_, rfl⟩
              rw [hxe] at hx
              have hx9 := H9.out.at hx
              have q5 := own5.cell (ints_at (oft_zero (l := ws) (all := (s : Int)) (k := kk) (s := s) hlt3))
              rw [got_total HL.out H9.out.lim HS.out hx] at q5
              have qw := ow.cell (ints_at hx)
              obtain ⟨y, hy⟩ : ∃ y, x * (kk : Int) = y := ⟨_, rfl⟩
              have hyb : 0 ≤ y ∧ y ≤ 81 := by
                have g1 : x * (kk : Int) ≤ 9 * 9 := Int.mul_le_mul (by omega) (by omega) (by omega) (by decide)
                have g2 : 0 ≤ x * (kk : Int) := Int.mul_nonneg (by omega) (by omega)
                omega
              obtain ⟨z, hz⟩ : ∃ z, y * (s : Int) = z := ⟨_, rfl⟩
              have hzb : 0 ≤ z ∧ z ≤ 81 * 63 := by
                have g1 : y * (s : Int) ≤ 81 * 63 := Int.mul_le_mul (by omega) (by omega) (by omega) (by decide)
                have g2 : 0 ≤ y * (s : Int) := Int.mul_nonneg (by omega) (by omega)
                omega
              have wy : wrap64 y = y := w64 (by omega) (by omega)
              have wz : wrap64 z = z := w64 (by omega) (by omega)
              have tz : (z != z) = false := by simp
              rw [hy] at q5
              clear hx hxe hx9 hzb hyb
              go_upto_region 27 with fail
              go_quiet (fail)
              go_wp2
              go_roundw
              case rel => exact ⟨j + 1, by omega, by go_num, _, rfl⟩
              case measure => simp [intOf]; omega
            · obtain rfl : j = m := by omega
              go_wp2_with fail
              go_ret
              exact ⟨rfl, below_on hk4 (by rw [hB5]; repeat' (first | assumption | with_reducible exact Below.refl _ _ | with_reducible apply Below.drew | with_reducible apply below_drewN | with_reducible apply below_alloc | with_reducible refine below_set ?_ ?_ _ | (simp only [World.size_alloc, World.heap_drewN]; omega) | (simp; omega)))⟩
theorem law_top (A : Option Addr) (n c : Nat) (xs : List Int) (k0 : Int) (w : World) (h : Si w A n c xs) :
    Calls Try.prog 4 #[.slice A n c, .int .i64 k0] w fun e w' => e = .returned (.bool true) ∧ Below w.heap.size w w' := law_even h
end Go.Proofs.Ytjmkejindmgckaa
