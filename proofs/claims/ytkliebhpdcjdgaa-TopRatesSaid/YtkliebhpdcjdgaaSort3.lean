/-
  slices.symMergeCmpFunc at int, where one of both sides is a single number: the walks. Conditions: the slice is a row of the call's own that holds each number below its length once; what the function value answers.
-/
import Derived.Test.YtkliebhpdcjdgaaSort2
namespace Go.Proofs.Ytkliebhpdcjdgaa
open Go.RowKit

theorem rot_none {a m b : Nat} (h : ¬ (a < m ∧ m < b)) (h1 : a ≤ m) (h2 : m ≤ b) (k : Nat) : rotI a m b k = k := by
  unfold rotI
  split <;> (try split) <;> (try split) <;> omega
section
variable {w0 w : World} {B gb n c a m b : Nat} {xs : List Int} {g : FuncId} {v : Value} {κ : Int → Int}
set_option maxRecDepth 100000 in
set_option maxHeartbeats 3200000 in
theorem sym_one (E : SortEnv B w0 g v κ n) (h : Rw w0 w B gb n c xs) (hp : Pm n xs) (p : SymPre κ n a m b xs) (hm : m = a + 1) (hn : n ≤ 1000) :
    Calls Try.prog 159 #[.slice (some ⟨gb, 0, none⟩) n c, .int .i64 (a : Int), .int .i64 (m : Int), .int .i64 (b : Int), .func (.func g) #[] #[v]] w (SrtRet κ w0 B gb n c a b xs) := by
  have eg := E.eg
  have HE := hide E
  have HP := hide hp
  have HPR := hide p
  have am := p.am
  have mb := p.mb
  have bn := p.bn
  have HM := hide hm
  have em1 : (m : Int) - (a : Int) = 1 := by omega
  clear E hp p hm
  go_enter Try.func159, Try.ntmps159
  go_wp2_with fail
  go_loopw [10, 11] (fun vi vj wr => ∃ i j : Nat, m ≤ i ∧ i ≤ j ∧ j ≤ b ∧ vi = .int .i64 i ∧ vj = .int .i64 j ∧ Rw w0 wr B gb n c xs ∧ (∀ k, m ≤ k → k < i → Lt κ (el xs k) (el xs a)) ∧ (∀ k, j ≤ k → k < b → Lt κ (el xs a) (el xs k))) (fun vi vj _ => (intOf vj - intOf vi).toNat)
  case atStart => exact ⟨m, b, Nat.le_refl _, by omega, Nat.le_refl _, rfl, rfl, h, fun k h1 h2 => by omega, fun k h1 h2 => by omega⟩
  case round =>
    obtain ⟨i, j, o1, o2, o3, rfl, rfl, hr, hu, hd⟩ := hrel
    have HU := hide hu
    have HDD := hide hd
    clear hu hd h
    by_cases hlt : i < j
    · obtain ⟨h, hh⟩ : ∃ h, (i + j) / 2 = h := ⟨_, rfl⟩
      have h1 : i ≤ h := by omega
      have h2 : h < j := by omega
      have em : ((i : Int) + (j : Int)) / 2 = (h : Int) := by omega
      have hn' : h < n := by omega
      have an : a < n := by omega
      have mn : m < n := by omega
      have b1 : (0 : Int) ≤ (h : Int) := by omega
      have b2 : (h : Int) < (n : Int) := by omega
      have b3 : (0 : Int) ≤ (a : Int) := by omega
      have b4 : (a : Int) < (n : Int) := by omega
      have b5 : (0 : Int) ≤ (m : Int) := by omega
      have b6 : (m : Int) < (n : Int) := by omega
      clear hh
      have cx := hr.at_ (i := h) (by omega)
      have cy := hr.at_ (i := a) (by omega)
      have HC := hide (HE.out.at_ hr HP.out (i := h) (j := a) (by omega) (by omega))
      obtain ⟨D, hD⟩ : ∃ D, κ (el xs h) - κ (el xs a) = D := ⟨_, rfl⟩
      rw [hD] at HC
      by_cases hc : D < 0
      · have t1 : decide (D < 0) = true := decide_eq_true hc
        have HNX := hide (b1_up HPR.out (h := h) (by omega) (by omega) (by omega))
        clear hD hc
        obtain ⟨x, hx⟩ : ∃ x, el xs h = x := ⟨_, rfl⟩
        obtain ⟨y, hy⟩ : ∃ y, el xs a = y := ⟨_, rfl⟩
        rw [hx] at cx HC
        rw [hy] at cy HC
        clear hx hy
        go_wp2_with fail
        go_quiet ((exact HC.out _))
        go_wp2_with fail
        go_roundw
        case rel => exact ⟨h + 1, j, by omega, by omega, o3, by go_num, rfl, hr.drewN nq, HNX.out, HDD.out⟩
        case measure => simp [intOf]; omega
      · have t1 : decide (D < 0) = false := decide_eq_false hc
        have HNX := hide (b1_dn HPR.out (h := h) (by omega) (by omega) (by omega))
        clear hD hc
        obtain ⟨x, hx⟩ : ∃ x, el xs h = x := ⟨_, rfl⟩
        obtain ⟨y, hy⟩ : ∃ y, el xs a = y := ⟨_, rfl⟩
        rw [hx] at cx HC
        rw [hy] at cy HC
        clear hx hy
        go_wp2_with fail
        go_quiet ((exact HC.out _))
        go_wp2_with fail
        go_roundw
        case rel => exact ⟨i, h, o1, h1, by omega, rfl, rfl, hr.drewN nq, HU.out, HNX.out⟩
        case measure => simp [intOf]; omega
    · obtain rfl : i = j := by omega
      obtain ⟨l, hl⟩ : ∃ l, i = l + 1 := ⟨i - 1, by omega⟩
      have el1 : (i : Int) - 1 = (l : Int) := by omega
      have HL := hide hl
      have l1 : a ≤ l := by omega
      have l2 : l < b := by omega
      clear hl
      go_wp2_with fail
      obtain ⟨wo, rfl⟩ : ∃ wo : World, wo = wr := ⟨_, rfl⟩
      go_loopw [13] (fun vk wr => ∃ (k : Nat) (zs : List Int), a ≤ k ∧ k ≤ l ∧ vk = .int .i64 k ∧ Rw w0 wr B gb n c zs ∧ Mv n a b xs zs ∧ Sh1 xs zs a k) (fun vk _ => l - (intOf vk).toNat)
      case atStart => exact ⟨a, xs, Nat.le_refl _, l1, rfl, hr, Mv.refl _ _ _ _, Sh1.start⟩
      case round =>
        clear hr
        obtain ⟨k, zs, k1, k2, rfl, hr, hmv, hsh⟩ := hrel
        have HMV := hide hmv
        have HSH := hide hsh
        clear hmv hsh
        by_cases hkl : k < l
        · obtain ⟨s, hs⟩ : ∃ s, k + 1 = s := ⟨_, rfl⟩
          have es : (k : Int) + 1 = (s : Int) := by omega
          have sn : s < n := by omega
          have kn : k < n := by omega
          have ews : IntKind.i64.wrap (s : Int) = (s : Int) := by rw [IntKind.wrap_i64]; omega
          have b1 : (0 : Int) ≤ (s : Int) := by omega
          have b2 : (s : Int) < (n : Int) := by omega
          have b3 : (0 : Int) ≤ (k : Int) := by omega
          have b4 : (k : Int) < (n : Int) := by omega
          have hne : k ≠ s := by omega
          have HMS := hide (HMV.out.trans (Mv.swp (n := n) (a := a) (b := b) hr.len (i := k) (j := s) (by omega) (by omega) bn))
          have HNX := hide (show Sh1 xs (swp zs k s) a s by rw [← hs]; exact HSH.out.step k1 (by rw [hr.len]; omega))
          have HS := hide hs
          clear hs
          have cx := hr.at_ kn
          have cy := hr.at_ sn
          have fx := hr.own.free k
          have fy := hr.own.free s
          have HRS := hide (hr.swp (i := k) (j := s) (by omega))
          obtain ⟨x, hx⟩ : ∃ x, el zs k = x := ⟨_, rfl⟩
          obtain ⟨y, hy⟩ : ∃ y, el zs s = y := ⟨_, rfl⟩
          rw [hx] at cx HRS
          rw [hy] at cy HRS
          clear hx hy
          obtain ⟨v1, e1⟩ := cell?_setCell_some (w := wr) (p := ⟨gb, k, none⟩) (x := .int .i64 y) (q := ⟨gb, s, none⟩) (v := .int .i64 y) (by go_simp)
          obtain ⟨v2, e2⟩ := cell?_setCell_some (w := wr) (p := ⟨gb, s, none⟩) (x := .int .i64 x) (q := ⟨gb, k, none⟩) (v := .int .i64 x) (by go_simp)
          go_wp2_with fail
          go_region
          all_goals
            go_wp2_with fail
            go_roundw
            case rel =>
              have := HS.out
              exact ⟨s, _, by omega, by omega, rfl, by first | exact HRS.out | exact HRS.out.drew, HMS.out, HNX.out⟩
            case measure => have := HS.out; simp [intOf]; omega
        · obtain rfl : k = l := by omega
          go_wp2_with fail
          go_end0
          have hl := HL.out
          exact ⟨zs, rfl, hr, HMV.out, Sh1.done HPR.out HM.out HSH.out l1 l2 (fun q h1 h2 => HU.out q h1 (by omega)) (fun q h1 h2 => HDD.out q (by omega) h2)⟩
set_option maxRecDepth 100000 in
set_option maxHeartbeats 3200000 in
theorem sym_two (E : SortEnv B w0 g v κ n) (h : Rw w0 w B gb n c xs) (hp : Pm n xs) (p : SymPre κ n a m b xs) (hm : ¬ m = a + 1) (hb : b = m + 1) (hn : n ≤ 1000) :
    Calls Try.prog 159 #[.slice (some ⟨gb, 0, none⟩) n c, .int .i64 (a : Int), .int .i64 (m : Int), .int .i64 (b : Int), .func (.func g) #[] #[v]] w (SrtRet κ w0 B gb n c a b xs) := by
  have eg := E.eg
  have HE := hide E
  have HP := hide hp
  have HPR := hide p
  have am := p.am
  have mb := p.mb
  have bn := p.bn
  have HBM := hide hb
  have em0 : ((m : Int) - (a : Int) == 1) = false := by simp; omega
  have em1 : (b : Int) - (m : Int) = 1 := by omega
  clear E hp p hm hb
  go_enter Try.func159, Try.ntmps159
  go_wp2_with fail
  go_loopw [14, 15] (fun vi vj wr => ∃ i j : Nat, a ≤ i ∧ i ≤ j ∧ j ≤ m ∧ vi = .int .i64 i ∧ vj = .int .i64 j ∧ Rw w0 wr B gb n c xs ∧ (∀ k, a ≤ k → k < i → Lt κ (el xs k) (el xs m)) ∧ (∀ k, j ≤ k → k < m → Lt κ (el xs m) (el xs k))) (fun vi vj _ => (intOf vj - intOf vi).toNat)
  case atStart => exact ⟨a, m, Nat.le_refl _, by omega, Nat.le_refl _, rfl, rfl, h, fun k h1 h2 => by omega, fun k h1 h2 => by omega⟩
  case round =>
    obtain ⟨i, j, o1, o2, o3, rfl, rfl, hr, hu, hd⟩ := hrel
    have HU := hide hu
    have HDD := hide hd
    clear hu hd h
    by_cases hlt : i < j
    · obtain ⟨h, hh⟩ : ∃ h, (i + j) / 2 = h := ⟨_, rfl⟩
      have h1 : i ≤ h := by omega
      have h2 : h < j := by omega
      have em : ((i : Int) + (j : Int)) / 2 = (h : Int) := by omega
      have hn' : h < n := by omega
      have an : a < n := by omega
      have mn : m < n := by omega
      have b1 : (0 : Int) ≤ (h : Int) := by omega
      have b2 : (h : Int) < (n : Int) := by omega
      have b3 : (0 : Int) ≤ (a : Int) := by omega
      have b4 : (a : Int) < (n : Int) := by omega
      have b5 : (0 : Int) ≤ (m : Int) := by omega
      have b6 : (m : Int) < (n : Int) := by omega
      clear hh
      have cx := hr.at_ (i := m) (by omega)
      have cy := hr.at_ (i := h) (by omega)
      have HC := hide (HE.out.at_ hr HP.out (i := m) (j := h) (by omega) (by omega))
      obtain ⟨D, hD⟩ : ∃ D, κ (el xs m) - κ (el xs h) = D := ⟨_, rfl⟩
      rw [hD] at HC
      by_cases hc : D < 0
      · have t1 : decide (D < 0) = true := decide_eq_true hc
        have HNX := hide (b2_dn HPR.out (h := h) (by omega) (by omega) (by omega))
        clear hD hc
        obtain ⟨x, hx⟩ : ∃ x, el xs m = x := ⟨_, rfl⟩
        obtain ⟨y, hy⟩ : ∃ y, el xs h = y := ⟨_, rfl⟩
        rw [hx] at cx HC
        rw [hy] at cy HC
        clear hx hy
        go_wp2_with fail
        go_quiet ((exact HC.out _))
        go_wp2_with fail
        go_roundw
        case rel => exact ⟨i, h, o1, h1, by omega, rfl, rfl, hr.drewN nq, HU.out, HNX.out⟩
        case measure => simp [intOf]; omega
      · have t1 : decide (D < 0) = false := decide_eq_false hc
        have HNX := hide (b2_up HPR.out (h := h) (by omega) (by omega) (by omega))
        clear hD hc
        obtain ⟨x, hx⟩ : ∃ x, el xs m = x := ⟨_, rfl⟩
        obtain ⟨y, hy⟩ : ∃ y, el xs h = y := ⟨_, rfl⟩
        rw [hx] at cx HC
        rw [hy] at cy HC
        clear hx hy
        go_wp2_with fail
        go_quiet ((exact HC.out _))
        go_wp2_with fail
        go_roundw
        case rel => exact ⟨h + 1, j, by omega, by omega, o3, by go_num, rfl, hr.drewN nq, HNX.out, HDD.out⟩
        case measure => simp [intOf]; omega
    · obtain rfl : i = j := by omega
      go_wp2_with fail
      obtain ⟨wo, rfl⟩ : ∃ wo : World, wo = wr := ⟨_, rfl⟩
      go_loopw [17] (fun vk wr => ∃ (k : Nat) (zs : List Int), i ≤ k ∧ k ≤ m ∧ vk = .int .i64 k ∧ Rw w0 wr B gb n c zs ∧ Mv n a b xs zs ∧ Sh2 xs zs m k) (fun vk _ => (intOf vk).toNat - i)
      case atStart => exact ⟨m, xs, by omega, Nat.le_refl _, rfl, hr, Mv.refl _ _ _ _, Sh2.start⟩
      case round =>
        clear hr
        obtain ⟨k, zs, k1, k2, rfl, hr, hmv, hsh⟩ := hrel
        have HMV := hide hmv
        have HSH := hide hsh
        clear hmv hsh
        by_cases hkl : i < k
        · obtain ⟨s, hs⟩ : ∃ s, k - 1 = s := ⟨_, rfl⟩
          have es : (k : Int) - 1 = (s : Int) := by omega
          have sn : s < n := by omega
          have kn : k < n := by omega
          have ews : IntKind.i64.wrap (s : Int) = (s : Int) := by rw [IntKind.wrap_i64]; omega
          have b1 : (0 : Int) ≤ (s : Int) := by omega
          have b2 : (s : Int) < (n : Int) := by omega
          have b3 : (0 : Int) ≤ (k : Int) := by omega
          have b4 : (k : Int) < (n : Int) := by omega
          have hne : k ≠ s := by omega
          have HMS := hide (HMV.out.trans (Mv.swp (n := n) (a := a) (b := b) hr.len (i := k) (j := s) (by omega) (by omega) bn))
          have HNX := hide (show Sh2 xs (swp zs k s) m s by rw [← hs]; exact HSH.out.step (by omega) k2 (by rw [hr.len]; omega))
          have HS := hide hs
          clear hs
          have cx := hr.at_ kn
          have cy := hr.at_ sn
          have fx := hr.own.free k
          have fy := hr.own.free s
          have HRS := hide (hr.swp (i := k) (j := s) (by omega))
          obtain ⟨x, hx⟩ : ∃ x, el zs k = x := ⟨_, rfl⟩
          obtain ⟨y, hy⟩ : ∃ y, el zs s = y := ⟨_, rfl⟩
          rw [hx] at cx HRS
          rw [hy] at cy HRS
          clear hx hy
          obtain ⟨v1, e1⟩ := cell?_setCell_some (w := wr) (p := ⟨gb, k, none⟩) (x := .int .i64 y) (q := ⟨gb, s, none⟩) (v := .int .i64 y) (by go_simp)
          obtain ⟨v2, e2⟩ := cell?_setCell_some (w := wr) (p := ⟨gb, s, none⟩) (x := .int .i64 x) (q := ⟨gb, k, none⟩) (v := .int .i64 x) (by go_simp)
          go_wp2_with fail
          go_region
          all_goals
            go_wp2_with fail
            go_roundw
            case rel =>
              have := HS.out
              exact ⟨s, _, by omega, by omega, rfl, by first | exact HRS.out | exact HRS.out.drew, HMS.out, HNX.out⟩
            case measure => have := HS.out; simp [intOf]; omega
        · obtain rfl : k = i := by omega
          go_wp2_with fail
          go_end0
          exact ⟨zs, rfl, hr, HMV.out, Sh2.done HPR.out HBM.out HSH.out o1 k2 HU.out HDD.out⟩
end
end Go.Proofs.Ytkliebhpdcjdgaa
