/-
  culref.Nth: the walk. Condition: the rank is one of those that there are.
-/
import Derived.Test.YtjmkejindmgckaaDigit5
namespace Go.Proofs.Ytjmkejindmgckaa
open Go.RowKit

def NthRet (w : World) (n : Nat) (zs : List Int) (e : Ending) (w' : World) : Prop :=
  ∃ A c, e = .returned (.slice A n c) ∧ Own w' w.heap.size 3 1 A n c (ints zs) ∧ Below w.heap.size w w'
def lift (k y : Nat) : Nat := if k ≤ y then y + 1 else y
theorem lift_yes {k y : Nat} (h : k ≤ y) : lift k y = y + 1 := if_pos h
theorem lift_no {k y : Nat} (h : ¬ k ≤ y) : lift k y = y := if_neg h
theorem casts_next {ys : List Nat} {k j y z : Nat} (h : ys[j]? = some y) (hz : lift k y = z) : casts (k :: (ys.take (j + 1)).map (lift k)) = casts (k :: (ys.take j).map (lift k)) ++ [(z : Int)] := by
  rw [List.take_add_one, h]
  simp [casts, hz]
theorem own_lit {w : World} {base g : Nat} {e : TypeId} {v : Value} (h : Blk w g e #[v]) (hb : base ≤ g) : Own w base e 1 (some ⟨g, 0, none⟩) 1 1 [v] :=
  Own.of_blk h hb (by simp [maxLen]) rfl
set_option maxRecDepth 20000 in
set_option maxHeartbeats 1600000 in
theorem nth_any : ∀ (m : Nat), m ≤ 12 → ∀ (r : Nat) (w : World), r < fac m → Calls Try.prog 35 #[.int .i64 m, .int .i64 r] w (NthRet w m (casts (nth m r)))
  | 0, _, r, w, _ => by
    go_enter Try.func35, Try.ntmps35
    go_wp2_with fail
    go_ret
    exact ⟨none, 0, rfl, Own.nil _ _ _ _, Below.refl _ _⟩
  | m + 1, hm, r, w, hr => by
    have HI := hide (fun (r : Nat) (w : World) (h : r < fac m) => nth_any m (by omega) r w h)
    have HF := hide (rfact_any m (by omega))
    obtain ⟨f1, f2⟩ := fac_i (k := m) (by omega)
    have hk1 := first_lt hr
    have hmod := Nat.mod_lt r (fac_pos m)
    have q1 : (r : Int) / (fac m : Int) = ((r / fac m : Nat) : Int) := rfl
    have q2 : (r : Int) % (fac m : Int) = ((r % fac m : Nat) : Int) := rfl
    have hu : nth (m + 1) r = r / fac m :: (nth m (r % fac m)).map (lift (r / fac m)) := rfl
    have hri3 : (r : Int) ≤ 479001600 := by have := (fac_i (k := m + 1) hm).2; omega
    obtain ⟨k, hk⟩ : ∃ k, r / fac m = k := ⟨_, rfl⟩
    obtain ⟨r2, hr2⟩ : ∃ r2, r % fac m = r2 := ⟨_, rfl⟩
    rw [hk] at hk1 q1 hu
    rw [hr2] at hmod q2 hu
    have HMOD := hide hmod
    have HU := hide hu
    have hyl := nth_len m r2
    obtain ⟨ys, hys⟩ : ∃ ys, nth m r2 = ys := ⟨_, rfl⟩
    have HC := HI.out r2
    rw [hys] at hyl HC
    have HYL := hide hyl
    have HYS := hide hys
    obtain ⟨F, hF⟩ : ∃ F, (fac m : Int) = F := ⟨_, rfl⟩
    rw [hF] at f1 f2 q1 q2 HF
    clear hk hr2 hF hmod hu hr hyl hys HI
    have HCC := hide HC
    have hyb := hide (show ∀ y ∈ ys, y < m from by rw [← HYS.out]; exact nth_lt m r2 HMOD.out)
    clear HC
    have e1 : ((m + 1 : Nat) : Int) = (m : Int) + 1 := by omega
    rw [e1]
    clear e1
    have t1 : ((m : Int) + 1 == 0) = false := by simp; omega
    have e2 : (m : Int) + 1 - 1 = (m : Int) := by omega
    go_enter Try.func35, Try.ntmps35
    go_wp2_with (first | (go_at_call 33; refine (HF.out _).mono ?_; rintro e w' ⟨rfl, rfl⟩))
    refine (HCC.out _ HMOD.out).mono ?_
    rintro e w2 ⟨A2, c2, rfl, own2, hb2⟩
    have b0 := Blk.new w 3 #[.int .i64 (k : Int)]
    have bl2 := b0.below hb2 b0.lt
    have hz2 : w.heap.size < (w.alloc (.cells #[.int .i64 (k : Int)] 3)).heap.size := by simp
    have hap := (own2.apart_low hz2).symm
    have own0 := own_lit bl2 (Nat.le_refl _)
    have own2b := own2.mono (Nat.le_of_lt hz2)
    have hb02 : Below w.heap.size w w2 := below_on ((Below.refl _ _).alloc (Nat.le_refl _) _) hb2
    clear b0 bl2 hz2 own2 hb2
    go_wp2_with fail
    go_loopw [6, 27] (fun vo vi wr => ∃ (j : Nat) (A : Option Addr) (c : Nat), j ≤ m ∧ vi = .int .i64 j ∧ vo = .slice A (j + 1) c ∧ Own wr w.heap.size 3 1 A (j + 1) c (ints (casts (k :: (ys.take j).map (lift k)))) ∧ Own wr w.heap.size 3 1 A2 m c2 (ints (casts ys)) ∧ Apart A A2 ∧ Below w.heap.size w wr) (fun _ i _ => m - (intOf i).toNat)
    case atStart => exact ⟨0, _, 1, Nat.zero_le _, rfl, rfl, own0, own2b, hap, hb02⟩
    case round =>
      clear own0 own2b hap hb02
      obtain ⟨j, A, c, hj, rfl, rfl, own, ow2, hap, hb⟩ := hrel
      have zr := hb.size
      by_cases hlt : j < m
      · obtain ⟨ad, yi, rfl, hbk, hx, hc⟩ := ow2.sl.icell hlt
        have hy : ys[j]? = some (ys.getD j 0) := by rw [List.getD, List.getElem?_eq_getElem (by rw [HYL.out]; exact hlt)]; rfl
        obtain ⟨y, hye⟩ : ∃ y, ys.getD j 0 = y := ⟨_, rfl⟩
        rw [hye] at hy
        rw [casts_at hy] at hx
        injection hx with hx
        subst hx
        have hym := hyb.out y (List.mem_of_getElem? hy)
        have HY := hide hy
        clear hye hy
        by_cases hky : k ≤ y
        · have HN := hide (casts_next HY.out (lift_yes hky))
          have hkz : (k : Int) ≤ (y : Int) := by omega
          have ez : ((y + 1 : Nat) : Int) = (y : Int) + 1 := by omega
          rw [ez] at HN
          go_wp2_with (at_builtin; refine wpList_append_sl T_int rfl _ _ rfl (by rfl) (by rfl) (own.alloc _) (Sl.lit (at_new _ _)) (ints_one [(y : Int) + 1]) (by simp only [maxLen]; omega) (by omega) (by simp; omega) ?_; intro A3 c3 w3 ap)
          have own3 := ap.own
          have ow3 := (ow2.alloc (.cells #[.int .i64 ((y : Int) + 1)] 3)).grown_apart ap hap
          have hap3 := ap.apart (ow2.alloc (.cells #[.int .i64 ((y : Int) + 1)] 3)) hap
          have hb3 : Below w.heap.size w w3 := (hb.alloc zr _).trans ap.below
          rw [show ints (casts (k :: (ys.take j).map (lift k))) ++ [Value.int .i64 ((y : Int) + 1)] = ints (casts (k :: (ys.take (j + 1)).map (lift k))) from by rw [HN.out, ints_append]; rfl] at own3
          clear ap
          go_wp2_with fail
          go_roundw
          case rel => exact ⟨j + 1, A3, c3, by omega, by go_num, rfl, own3, ow3, hap3, hb3⟩
          case measure => simp [intOf]; omega
        · have HN := hide (casts_next HY.out (lift_no hky))
          have hkz : (y : Int) < (k : Int) := by omega
          go_wp2_with (at_builtin; refine wpList_append_sl T_int rfl _ _ rfl (by rfl) (by rfl) (own.alloc _) (Sl.lit (at_new _ _)) (ints_one [(y : Int)]) (by simp only [maxLen]; omega) (by omega) (by simp; omega) ?_; intro A3 c3 w3 ap)
          have own3 := ap.own
          have ow3 := (ow2.alloc (.cells #[.int .i64 (y : Int)] 3)).grown_apart ap hap
          have hap3 := ap.apart (ow2.alloc (.cells #[.int .i64 (y : Int)] 3)) hap
          have hb3 : Below w.heap.size w w3 := (hb.alloc zr _).trans ap.below
          rw [show ints (casts (k :: (ys.take j).map (lift k))) ++ [Value.int .i64 (y : Int)] = ints (casts (k :: (ys.take (j + 1)).map (lift k))) from by rw [HN.out, ints_append]; rfl] at own3
          clear ap
          go_wp2_with fail
          go_roundw
          case rel => exact ⟨j + 1, A3, c3, by omega, by go_num, rfl, own3, ow3, hap3, hb3⟩
          case measure => simp [intOf]; omega
      · obtain rfl : j = m := by omega
        rw [List.take_of_length_le (by rw [HYL.out]; exact Nat.le_refl _), ← HYS.out, ← HU.out] at own
        go_wp2_with fail
        go_ret
        exact ⟨A, c, rfl, own, hb⟩
end Go.Proofs.Ytjmkejindmgckaa
