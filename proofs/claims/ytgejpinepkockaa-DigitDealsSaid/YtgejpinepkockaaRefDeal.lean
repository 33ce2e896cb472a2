/-
  culref.Deal: the walk. Conditions: the slices read as lists of m numbers, the draws may be, m is at most 12.
-/
import Derived.Test.YtgejpinepkockaaDeal
import Derived.Deep.RegionHeld3
import Derived.Deep.DeepCutAuto
namespace Go.Proofs.Ytgejpinepkockaa
open Go.RowKit

def refDeal (xs ds : List Int) : Nat → List Int
  | 0 => []
  | m + 1 => swapAt (refDeal xs ds m ++ [xs.getD m 0]) m (ds.getD m 0).toNat
theorem refDeal_len (xs ds : List Int) : ∀ m, (refDeal xs ds m).length = m
  | 0 => rfl
  | m + 1 => by rw [refDeal, swapAt_len, List.length_append, refDeal_len xs ds m]; rfl
theorem refDeal_cut (xs ds : List Int) (k : Nat) : ∀ m, m ≤ k → refDeal (xs.take k) (ds.take k) m = refDeal xs ds m
  | 0, _ => rfl
  | m + 1, h => by
    rw [refDeal, refDeal, refDeal_cut xs ds k m (by omega)]
    have h1 : m < k := h
    simp [List.getD, h1]
theorem drawsOk_cut (ds : List Int) (k : Nat) : ∀ m, m ≤ k → drawsOk ds m = true → drawsOk (ds.take k) m = true
  | 0, _, _ => rfl
  | m + 1, h, hd => by
    have h1 : m < k := h
    simp only [drawsOk, Bool.and_eq_true] at hd ⊢
    refine ⟨drawsOk_cut ds k m (by omega) hd.1, ?_⟩
    simpa [List.getD, h1] using hd.2
theorem drawsOk_le {ds : List Int} {k : Nat} : ∀ m, k ≤ m → drawsOk ds m = true → drawsOk ds k = true
  | 0, h, hd => by obtain rfl : k = 0 := by omega
                   exact hd
  | m + 1, h, hd => by
    by_cases e : k = m + 1
    · subst e; exact hd
    · simp only [drawsOk, Bool.and_eq_true] at hd
      exact drawsOk_le m (by omega) hd.1
theorem drawsOk_at {ds : List Int} {m : Nat} {d : Int} (hd : ds[m]? = some d) (h : drawsOk ds (m + 1) = true) : 0 ≤ d ∧ d ≤ m := by
  simp only [drawsOk, Bool.and_eq_true] at h
  have h2 := h.2
  simp only [List.getD, hd, Option.getD_some, inR, decide_eq_true_eq] at h2
  exact h2
theorem swap_other {l : List Int} {k d : Nat} {x y : Int} (hx : l[k]? = some x) (hy : l[d]? = some y) : ((ints l).set d (.int .i64 x)).set k (.int .i64 y) = ints (swapAt l k d) := by
  rw [← ints_swap hx hy]
  by_cases e : k = d
  · subst e
    rw [hx] at hy
    injection hy with hy
    subst hy
    rfl
  · rw [List.set_comm _ _ (Ne.symm e)]

/-- A row of n numbers of the call's own comes back. -/
def Row (w : World) (n : Nat) (zs : List Int) (v : Value) (w' : World) : Prop := ∃ A c, v = .slice A n c ∧ Own w' w.heap.size 3 1 A n c (ints zs)

set_option maxRecDepth 20000 in
set_option maxHeartbeats 1600000 in
theorem refDeal_any (m : Nat) : ∀ (A1 A2 : Option Addr) (c1 c2 : Nat) (xs ds : List Int) (w : World), Si w A1 m c1 xs → Si w A2 m c2 ds → drawsOk ds m = true → m ≤ 12 →
    Calls Try.prog 18 #[.slice A1 m c1, .slice A2 m c2] w (Ret w (Row w m (refDeal xs ds m))) := by
  induction m with
  | zero =>
    intro A1 A2 c1 c2 xs ds w h1 h2 hok hm
    go_enter Try.func18, Try.ntmps18
    go_wp2
    go_ret
    exact ⟨_, rfl, Below.refl _ _, none, 0, rfl, Own.nil _ _ _ _⟩
  | succ m ih =>
    intro A1 A2 c1 c2 xs ds w h1 h2 hok hm
    have IH := hide ih
    clear ih
    have hm1 := h1.len_max
    have k1 := h1.cap
    have k2 := h2.cap
    obtain ⟨ad, x, rfl, hb, hx, hc⟩ := h1.icell (show m < m + 1 by omega)
    obtain ⟨ae, d, rfl, hbe, hd, hce⟩ := h2.icell (show m < m + 1 by omega)
    obtain ⟨hd1, hd2⟩ := drawsOk_at hd hok
    obtain ⟨dn, rfl⟩ := Int.eq_ofNat_of_zero_le hd1
    have hdn : dn < m + 1 := by omega
    have HX := hide hx
    have HD := hide hd
    have HOK := hide (drawsOk_cut ds m m (Nat.le_refl _) (drawsOk_le (m + 1) (Nat.le_succ _) hok))
    clear hx hd hok
    have hL := refDeal_len (xs.take m) (ds.take m) m
    have hF : ints (refDeal xs ds (m + 1)) = ints (swapAt (refDeal (xs.take m) (ds.take m) m ++ [x]) m dn) := by
      rw [refDeal, refDeal_cut xs ds m m (Nat.le_refl _)]
      simp [List.getD, HX.out, HD.out]
    obtain ⟨L, hLe⟩ : ∃ L, L = refDeal (xs.take m) (ds.take m) m := ⟨_, rfl⟩
    have HLe := hide hLe
    rw [← hLe] at hF hL
    clear hLe
    obtain ⟨y, hy⟩ : ∃ y, (L ++ [x])[dn]? = some y := ⟨_, List.getElem?_eq_getElem (by simp; omega)⟩
    have hxm : (L ++ [x])[m]? = some x := by rw [List.getElem?_append_right (by omega), hL]; simp
    have HF := hide hF
    have HLn := hide hL
    have HY := hide hy
    have HXM := hide hxm
    clear hF hL hy hxm
    have b0 : (0 : Int) ≤ (m : Int) := by omega
    have b1 : (m : Int) ≤ (c1 : Int) := by omega
    have b2 : (m : Int) ≤ (c2 : Int) := by omega
    have b3 : (m : Int) < (m : Int) + 1 := by omega
    go_enter Try.func18, Try.ntmps18
    go_upto_region 4 with fail
    go_cut [6] (fun s6 wx => ∃ A c, s6 = .slice A (m + 1) c ∧ Own wx w.heap.size 3 1 A (m + 1) c (ints (L ++ [x])) ∧ Below w.heap.size w wx)
    case first =>
      go_region_held3 (fun w' => Below w.heap.size w w' ∧ w'.cell? (ad.add m) = some (.int .i64 x)) ((refine keep_cell hb hc ?_; repeat' (first | assumption | with_reducible exact Below.refl _ _ | with_reducible apply Below.drew | with_reducible apply below_alloc)))
        (first
          | (go_at_call 18; refine (IH.out _ _ _ _ (xs.take m) (ds.take m) _ ((h1.itake (by omega)).upd (by repeat' (first | assumption | with_reducible exact Below.refl _ _ | with_reducible apply Below.drew | with_reducible apply below_alloc)) (Nat.le_refl _) (by simp)) ((h2.itake (by omega)).upd (by repeat' (first | assumption | with_reducible exact Below.refl _ _ | with_reducible apply Below.drew | with_reducible apply below_alloc)) (Nat.le_refl _) (by simp)) HOK.out (by omega)).mono ?_; rintro e w1 ⟨v, rfl, hb1, A, c, rfl, hown⟩; have hw1 : Below w.heap.size w w1 := below_on (by repeat' (first | assumption | with_reducible exact Below.refl _ _ | with_reducible apply Below.drew | with_reducible apply below_alloc)) hb1; have hown0 : Own w1 w.heap.size 3 1 A m c (ints L) := by rw [HLe.out]; exact hown.mono (by simp))
          | (refine step_append_sl T_int (base := w.heap.size) (B := w1.heap.size + 1) (xs := ints L) (news := [.int .i64 x]) (by rfl) _ _ (by rfl) (by rfl) (by rfl) ?_ ?_ (ints_one [x]) ?_ ?_ ?_ ?_; (first | with_reducible exact hown0 | with_reducible exact hown0.alloc _); (first | with_reducible exact Sl.new _ _ 1 1 [.int .i64 x] (by simp [maxLen]) rfl | exact (Sl.new _ _ 1 1 [.int .i64 x] (by simp [maxLen]) rfl).drew.upd hb1 (by simp) (Nat.succ_le_succ hw1.size)); (simp only [maxLen]; omega); omega; (first | exact hw1.size | exact (below_alloc hw1 _).size); intro A' c' w2 ap; have hw2 : Below w.heap.size w w2 := by first | with_reducible exact hw1.trans ap.below | with_reducible exact (below_alloc hw1 _).trans ap.below))
      all_goals go_wp2_with fail
      all_goals (go_meet; exact ⟨A', c', rfl, by rw [ints_append]; exact ap.own, hw2⟩)
    case rest =>
      obtain ⟨A, c, rfl, hown, hbx⟩ := hcut
      obtain ⟨g, rfl, hg1, hg2⟩ := hown.addr (by omega)
      have hcx := (hbx.cell (p := ae.add m) (by rw [add_block]; exact hbe)).trans hce
      have cx := hown.cell (ints_at HXM.out)
      have cy := hown.cell (ints_at HY.out)
      have fx := hown.free m
      have fy := hown.free dn
      obtain ⟨v1, e1⟩ := cell?_setCell_some (w := wc) (p := ⟨g, dn, none⟩) (x := .int .i64 x) (q := ⟨g, m, none⟩) (v := .int .i64 x) (by go_simp)
      go_wp2
      go_ret
      refine ⟨_, rfl, (hbx.setCell hg1 _).setCell hg1 _, some ⟨g, 0, none⟩, c, rfl, ?_⟩
      rw [HF.out, ← swap_other HXM.out HY.out]
      exact (hown.set dn _).set m _
end Go.Proofs.Ytgejpinepkockaa
