/-
  comb.Some, culref.Some: the walks. Conditions: as their theorems say.
-/
import Derived.Test.YtgejpinepkockaaComb3
namespace Go.Proofs.Ytgejpinepkockaa
open Go.RowKit

/-- The k numbers of that rank. -/
def SomOf : Nat → Nat → List Int → Prop
  | 0, _, zs => zs = []
  | k + 1, r, zs => ∃ (x : Nat) (ys : List Int), zs = ys ++ [(x : Int)] ∧ bin x (k + 1) ≤ r ∧ r < bin (x + 1) (k + 1) ∧ SomOf k (r - bin x (k + 1)) ys
theorem SomOf.one : ∀ {k r : Nat} {zs ys : List Int}, SomOf k r zs → SomOf k r ys → zs = ys
  | 0, _, _, _, h1, h2 => by rw [show _ = [] from h1, show _ = [] from h2]
  | k + 1, r, zs, ys, h1, h2 => by
    obtain ⟨x, l, rfl, a1, a2, a3⟩ := h1
    obtain ⟨y, m, rfl, b1, b2, b3⟩ := h2
    have e : x = y := by
      rcases Nat.lt_trichotomy x y with h | h | h
      · have := bin_mono (k := k + 1) (show x + 1 ≤ y from h); omega
      · exact h
      · have := bin_mono (k := k + 1) (show y + 1 ≤ x from h); omega
    subst e
    rw [SomOf.one a3 b3]
theorem SomOf.len : ∀ {k r : Nat} {zs : List Int}, SomOf k r zs → zs.length = k
  | 0, _, _, h => by rw [show _ = [] from h]; rfl
  | k + 1, _, _, h => by obtain ⟨x, l, rfl, _, _, a⟩ := h; simp [SomOf.len a]
theorem SomOf.more {k r x : Nat} {ys : List Int} (h1 : bin x (k + 1) ≤ r) (h2 : r < bin (x + 1) (k + 1)) (h : SomOf k (r - bin x (k + 1)) ys) : SomOf (k + 1) r (ys ++ [(x : Int)]) := ⟨x, ys, rfl, h1, h2, h⟩
theorem zeros_set (j : Nat) (tl : List Int) (x : Int) : (List.replicate (j + 1) 0 ++ tl).set j x = List.replicate j 0 ++ (x :: tl) := by
  rw [List.replicate_succ', List.append_assoc, List.set_append_right _ _ (by simp)]
  simp

def SomRet (w : World) (k R : Nat) (e : Ending) (w' : World) : Prop :=
  ∃ A c zs, e = .returned (.tuple #[.slice A k c, .int .i64 0]) ∧ SomOf k R zs ∧ Si w' A k c zs ∧ Below w.heap.size w w'

theorem some_arg (k r : Int) (h : k < 0 ∨ 30 < k) (w : World) : Calls Try.prog 38 #[.int .i64 k, .int .i64 r] w fun e w' => e = .returned (.tuple #[.slice none 0 0, .int .i64 1]) ∧ w = w' := by
  have key : k < 0 ∨ (¬ k < 0 ∧ 30 < k) := by omega
  clear h
  rcases key with k1 | ⟨k1, k2⟩
  all_goals
    go_enter Try.func38, Try.ntmps38
    go_wp2_with fail
    go_ret2
    exact ⟨rfl, rfl⟩
theorem some_none (k : Nat) (r : Int) (hk : k ≤ 30) (h : r < 0 ∨ (bin 30 k : Int) ≤ r) (w : World) : Calls Try.prog 38 #[.int .i64 k, .int .i64 r] w fun e w' => e = .returned (.tuple #[.slice none 0 0, .int .i64 4]) ∧ w = w' := by
  have key : r < 0 ∨ (¬ r < 0 ∧ (bin 30 k : Int) ≤ r) := by omega
  clear h
  rcases key with k1 | ⟨k1, k2⟩
  · go_enter Try.func38, Try.ntmps38
    go_wp2_with fail
    go_ret2
    exact ⟨rfl, rfl⟩
  · go_enter Try.func38, Try.ntmps38
    go_wp2_with fail
    refine (way_any 30 k (by omega) _).mono ?_
    rintro e w1 ⟨rfl, rfl⟩
    go_wp2_with fail
    go_ret2
    exact ⟨rfl, rfl⟩

set_option maxRecDepth 20000 in
set_option maxHeartbeats 1600000 in
theorem some_ok (k R : Nat) (hk : k ≤ 30) (h : R < bin 30 k) (w : World) : Calls Try.prog 38 #[.int .i64 k, .int .i64 R] w (SomRet w k R) := by
  have hb := bin_bound (n := 30) (by omega) k
  have H := hide h
  have h1 : (R : Int) < (bin 30 k : Int) := by omega
  have h2 : (R : Int) ≤ 1073741824 := by omega
  go_enter Try.func38, Try.ntmps38
  go_wp2_with fail
  refine (way_any 30 k (by omega) _).mono ?_
  rintro e w1 ⟨rfl, rfl⟩
  go_wp2_with (at_make; refine wpList_make_sl T_int rfl rfl _ _ rfl (by rfl) (by rfl) (by omega) (by simp only [maxLen]; omega) ?_; intro w2 own2 hb2; rw [ints_zero] at own2)
  go_loopw [1, 7] (fun v i wr => ∃ j r : Nat, ∃ tl : List Int, j ≤ k ∧ i = .int .i64 j ∧ v = .int .i64 r ∧ r < bin 30 j ∧ (∀ zs, SomOf j r zs → SomOf k R (zs ++ tl)) ∧ Own wr w.heap.size 3 1 (some ⟨w.heap.size, 0, none⟩) k k (ints (List.replicate j 0 ++ tl)) ∧ Below w.heap.size w wr) (fun _ i _ => (intOf i).toNat)
  case atStart => exact ⟨k, R, [], Nat.le_refl _, rfl, rfl, H.out, fun zs hz => by simpa using hz, by simpa using own2, hb2⟩
  case round =>
    obtain ⟨j, r, tl, hj, rfl, rfl, hr, hS, hown, hbw⟩ := hrel
    clear own2 hb2 h1 h2 hb
    by_cases h0 : 0 < j
    · obtain ⟨m, hm⟩ : ∃ m : Nat, j = m + 1 := ⟨j - 1, by omega⟩
      have b30 := bin_bound (n := 30) (by omega) j
      have HZ := hide (show bin m j = 0 from bin_none m j (by omega))
      have e1 : (j : Int) - 1 = (m : Int) := by omega
      have HR := hide hr
      have hr2 : (r : Int) ≤ 1073741824 := by omega
      have hj0 : (0 : Int) < (j : Int) := by omega
      have hmj : m < j := by omega
      have HM := hide hm
      clear hr hm
      go_wp2_with fail
      go_loop [8] (fun v => ∃ x : Nat, m ≤ x ∧ x ≤ 29 ∧ v = .int .i64 x ∧ bin x j ≤ r) (fun v => 30 - (intOf v).toNat)
      case atStart => exact ⟨m, Nat.le_refl _, by omega, rfl, by rw [HZ.out]; exact Nat.zero_le _⟩
      case round =>
        obtain ⟨x, hx1, hx2, rfl, hx3⟩ := hrel
        obtain ⟨y, hy⟩ : ∃ y : Nat, y = x + 1 := ⟨_, rfl⟩
        have ey : (x : Int) + 1 = (y : Int) := by omega
        have hy1 : y ≤ 30 := by omega
        have hy2 : x < y := by omega
        have HY := hide hy
        have bx2 := bin_bound (n := x) (by omega) j
        obtain ⟨by_, hby⟩ : ∃ b, bin y j = b := ⟨_, rfl⟩
        have bx1 := bin_bound hy1 j
        have C1 := hide (way_any y j hy1 wr)
        rw [hby] at bx1 C1
        have HB := hide hby
        clear hy hby
        by_cases hle : by_ ≤ r
        · have hx4 : y < 30 := by
            by_cases e : y < 30
            · exact e
            · have e : y = 30 := by omega
              have h1 := HR.out
              have h2 := HB.out
              rw [e] at h2
              omega
          go_wp2_with fail
          refine C1.out.mono ?_
          rintro e w3 ⟨rfl, rfl⟩
          go_wp2_with fail
          exact ⟨⟨y, by omega, by omega, rfl, by rw [HB.out]; exact hle⟩, by simp [intOf]; omega⟩
        · obtain ⟨bx, hbx⟩ : ∃ b, bin x j = b := ⟨_, rfl⟩
          have C2 := hide (way_any x j (by omega))
          rw [hbx] at hx3 bx2 C2
          have HBX := hide hbx
          clear hbx
          have cm := hown.cell (ints_at (show (List.replicate j (0 : Int) ++ tl)[m]? = some 0 by rw [List.getElem?_append_left (by simp; omega), List.getElem?_replicate, if_pos (by omega)]))
          have fm := hown.free m
          have hown2 := hown.set m (.int .i64 x)
          rw [← ints_set, HM.out, zeros_set] at hown2
          have q1 : (m : Int) < (k : Int) := by omega
          go_wp2_with fail
          refine C1.out.mono ?_
          rintro e w3 ⟨rfl, rfl⟩
          go_wp2_with fail
          refine (C2.out _).mono ?_
          rintro e w4 ⟨rfl, rfl⟩
          go_wp2_with fail
          have a1 := HY.out
          have a2 := HM.out
          have a3 := HB.out
          have a4 := HBX.out
          subst a1
          subst a2
          have a5 := bin_mono (k := m) (show x ≤ 30 by omega)
          have a6 : bin (x + 1) (m + 1) = bin x m + bin x (m + 1) := bin_next x m
          have er : (r : Int) - (bx : Int) = ((r - bx : Nat) : Int) := by omega
          have e7 : r - bx < bin 30 m := by omega
          have e8 : bin x (m + 1) ≤ r := by omega
          have e9 : r < bin (x + 1) (m + 1) := by omega
          have e10 : ∀ zs, SomOf m (r - bx) zs → SomOf k R (zs ++ (x : Int) :: tl) := by
            intro zs hz
            rw [← a4] at hz
            have := hS (zs ++ [(x : Int)]) (SomOf.more e8 e9 hz)
            rwa [List.append_assoc] at this
          have e11 : m ≤ k := by omega
          rw [er]
          exact ⟨⟨m, r - bx, (x : Int) :: tl, e11, rfl, rfl, e7, e10, hown2, below_set hbw (Nat.le_refl _) _⟩, by simp [intOf]⟩
    · obtain rfl : j = 0 := by omega
      have hS0 := hide (hS [] rfl)
      go_wp2_with fail
      go_ret2
      exact ⟨_, _, tl, rfl, hS0.out, hown.sl, hbw⟩

/-- What culref.Some leaves. -/
def RSomRet (w : World) (k R : Nat) (e : Ending) (w' : World) : Prop :=
  ∃ A c zs, e = .returned (.slice A k c) ∧ SomOf k R zs ∧ Own w' w.heap.size 3 1 A k c (ints zs) ∧ Below w.heap.size w w'
set_option maxRecDepth 20000 in
set_option maxHeartbeats 1600000 in
theorem rsome_any (k : Nat) : ∀ (R : Nat) (w : World), k ≤ 30 → R < bin 30 k → Calls Try.prog 43 #[.int .i64 k, .int .i64 R] w (RSomRet w k R) := by
  induction k with
  | zero =>
    intro R w _ h
    go_enter Try.func43, Try.ntmps43
    go_wp2_with fail
    go_ret
    exact ⟨none, 0, [], rfl, rfl, Own.nil _ _ _ _, Below.refl _ _⟩
  | succ m ih =>
    intro R w hk h
    obtain ⟨k, hkm⟩ : ∃ k : Nat, k = m + 1 := ⟨_, rfl⟩
    have ek : (k : Int) - 1 = (m : Int) := by omega
    have k0 : ((k : Int) == 0) = false := by simp; omega
    rw [← hkm] at hk h ⊢
    have b30 := bin_bound (n := 30) (by omega) k
    have H := hide h
    have hR : (R : Int) ≤ 1073741824 := by omega
    have hmk : m ≤ 29 := by omega
    have IH := hide ih
    have HK := hide hkm
    have HZ := hide (show bin m k = 0 from bin_none m k (by omega))
    clear h hkm ih
    go_enter Try.func43, Try.ntmps43
    go_wp2_with fail
    go_loopw [1, 5] (fun v i wr => ∃ x r : Nat, m ≤ x ∧ x ≤ 29 ∧ i = .int .i64 x ∧ v = .int .i64 r ∧ r + bin x k = R ∧ Below w.heap.size w wr) (fun _ i _ => 30 - (intOf i).toNat)
    case atStart => exact ⟨m, R, Nat.le_refl _, hmk, rfl, rfl, by rw [HZ.out]; omega, Below.refl _ _⟩
    case round =>
      obtain ⟨x, r, hx1, hx2, rfl, rfl, hr, hb⟩ := hrel
      have HR := hide hr
      clear hr
      obtain ⟨d, hd⟩ : ∃ d, bin x m = d := ⟨_, rfl⟩
      have C1 := hide (fun w => rways_any x m (by omega) w)
      have bd := bin_bound (n := x) (by omega) m
      rw [hd] at C1 bd
      have HD := hide hd
      have hr2 : (r : Int) ≤ 1073741824 := by have := HR.out; omega
      clear hd
      have hnx : bin (x + 1) k = d + bin x k := by rw [HK.out, bin_next, HD.out]
      have HX := hide hnx
      clear hnx
      by_cases hle : d ≤ r
      · have hx3 : x + 1 < 30 := by
          by_cases e : x + 1 < 30
          · exact e
          · have e : x + 1 = 30 := by omega
            have h1 := H.out
            have h2 := HX.out
            have h3 := HR.out
            rw [e] at h2
            omega
        go_wp2_with fail
        refine (C1.out _).mono ?_
        rintro e w1 ⟨rfl, hb1⟩
        have hw1 : Below w.heap.size w w1 := below_on hb hb1
        go_wp2_with fail
        refine (C1.out _).mono ?_
        rintro e w2 ⟨rfl, hb2⟩
        have hw2 : Below w.heap.size w w2 := below_on hw1 hb2
        go_wp2_with fail
        have er : (r : Int) - (d : Int) = ((r - d : Nat) : Int) := by omega
        have e7 : r - d + bin (x + 1) k = R := by have h2 := HX.out; have h3 := HR.out; omega
        rw [er]
        exact ⟨⟨x + 1, r - d, by omega, by omega, by go_num, rfl, e7, hw2⟩, by simp [intOf]; omega⟩
      · have C2 := hide (IH.out r)
        have hrm : r < bin 30 m := by have h1 := HD.out; have := bin_mono (k := m) (show x ≤ 30 by omega); omega
        have HRM := hide hrm
        clear hrm
        go_wp2_with fail
        refine (C1.out _).mono ?_
        rintro e w1 ⟨rfl, hb1⟩
        have hw1 : Below w.heap.size w w1 := below_on hb hb1
        go_wp2_with fail
        refine (C2.out w1 (by omega) HRM.out).mono ?_
        rintro e w2 ⟨A2, c2, zs, rfl, hz, hown, hb2⟩
        have hw2 : Below w.heap.size w w2 := below_on hw1 hb2
        have hzl := hz.len
        have z1 := hw1.size
        have z2 := hb2.size
        have HZS := hide hz
        clear hz
        go_wp2_with (at_builtin; refine wpList_append_sl T_int rfl _ _ rfl (by rfl) (by rfl) (hown.alloc _) (Sl.new w2 _ 1 1 [.int .i64 x] (by simp [maxLen]) rfl) (ints_one [(x : Int)]) (by simp only [maxLen]; omega) (by omega) (by simp; omega) ?_; intro A3 c3 w3 ap; have hw3 : Below w.heap.size w w3 := (below_alloc hw2 _).trans (ap.below.mono (by omega)))
        go_ret
        have hz2 := HZS.out
        have a1 := HX.out
        have a2 := HR.out
        have a3 := HK.out
        have e8 : bin x (m + 1) ≤ R := by rw [← a3]; omega
        have e9 : R < bin (x + 1) (m + 1) := by rw [← a3]; omega
        have e10 : SomOf m (R - bin x (m + 1)) zs := by rw [← a3, show R - bin x k = r by omega]; exact hz2
        refine ⟨A3, c3, zs ++ [(x : Int)], ?_, ?_, ?_, hw3⟩
        · rw [a3]; rfl
        · rw [a3]; exact SomOf.more e8 e9 e10
        · rw [a3, ints_append]; exact ap.own.mono z1
end Go.Proofs.Ytgejpinepkockaa
