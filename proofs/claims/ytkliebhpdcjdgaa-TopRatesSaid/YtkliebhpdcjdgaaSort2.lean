/-
  slices.insertionSortCmpFunc at int: the walk. Conditions: the slice is a row of the call's own that holds each number below its length once; what the function value answers.
-/
import Derived.Test.YtkliebhpdcjdgaaSort
namespace Go.Proofs.Ytkliebhpdcjdgaa
open Go.RowKit

structure SortEnv (B : Nat) (w0 : World) (g : FuncId) (v : Value) (κ : Int → Int) (n : Nat) : Prop where
  eg : ∀ (args : Array Value) (W : World), (callFunc g args).run Try.prog W = .ok (.enter g args) W
  cmp : ∀ (x y : Int), 0 ≤ x → x < n → 0 ≤ y → y < n → ∀ W, Below B w0 W → Calls Try.prog g #[.int .i64 x, .int .i64 y, v] W fun e w' => e = .returned (.int .i64 (κ x - κ y)) ∧ ∃ q, w' = W.drewN q
theorem SortEnv.at_ {B : Nat} {w0 : World} {g : FuncId} {v : Value} {κ : Int → Int} {n : Nat} (E : SortEnv B w0 g v κ n) {gb c : Nat} {xs : List Int} {w : World} (h : Rw w0 w B gb n c xs) (hp : Pm n xs) {i j : Nat} (hi : i < n) (hj : j < n) (q : Nat) :
    Calls Try.prog g #[.int .i64 (el xs i), .int .i64 (el xs j), v] (w.drewN q) fun e w' => e = .returned (.int .i64 (κ (el xs i) - κ (el xs j))) ∧ ∃ m, w' = w.drewN m := by
  obtain ⟨x, x1, x2⟩ := hp.rng i hi
  obtain ⟨y, y1, y2⟩ := hp.rng j hj
  exact Calls.quiet_of (E.cmp _ _ (by omega) (by omega) (by omega) (by omega) _ (below_drewN h.bel q))
def SrtRet (κ : Int → Int) (w0 : World) (B gb n c a b : Nat) (xs : List Int) (e : Ending) (w' : World) : Prop :=
  ∃ ys, e = .returned (.tuple #[]) ∧ Rw w0 w' B gb n c ys ∧ SymPost κ n a b xs ys
section
variable {w0 w : World} {B gb n c a b : Nat} {xs : List Int} {g : FuncId} {v : Value} {κ : Int → Int}
set_option maxRecDepth 20000 in
set_option maxHeartbeats 3200000 in
theorem insertion_any (E : SortEnv B w0 g v κ n) (h : Rw w0 w B gb n c xs) (hp : Pm n xs) (hs : Stb κ xs a b) (hab : a ≤ b) (hbn : b ≤ n) (hn : n ≤ 1000) :
    Calls Try.prog 158 #[.slice (some ⟨gb, 0, none⟩) n c, .int .i64 (a : Int), .int .i64 (b : Int), .func (.func g) #[] #[v]] w (SrtRet κ w0 B gb n c a b xs) := by
  have eg := E.eg
  have HE := hide E
  have HP := hide hp
  have HS := hide hs
  clear E hp hs
  rcases Nat.lt_or_ge a b with hlt | hge
  case inr =>
    obtain rfl : a = b := by omega
    go_enter Try.func158, Try.ntmps158
    go_wp2_with fail
    go_loopw [8] (fun i wr => i = .int .i64 ((a : Int) + 1) ∧ wr = w) (fun _ _ => 0)
    case atStart => exact ⟨rfl, rfl⟩
    case round =>
      obtain ⟨rfl, rfl⟩ := hrel
      go_wp2_with fail
      go_end0
      exact ⟨xs, rfl, h, Mv.refl _ _ _ _, fun i j h1 h2 h3 => by omega⟩
  go_enter Try.func158, Try.ntmps158
  go_wp2_with fail
  go_loopw [8] (fun i wr => ∃ (k : Nat) (ys : List Int), a < k ∧ k ≤ b ∧ i = .int .i64 k ∧ Rw w0 wr B gb n c ys ∧ Mv n a k xs ys ∧ Srt κ ys a k) (fun i _ => b - (intOf i).toNat)
  case atStart => exact ⟨a + 1, xs, Nat.lt_succ_self _, hlt, by go_num, h, Mv.refl _ _ _ _, fun i j h1 h2 h3 => by omega⟩
  case round =>
    obtain ⟨k, ys, hak, hkb, rfl, hr, hmv, hsr⟩ := hrel
    by_cases hk : k < b
    · have HI := hide (ins_start hsr hmv HS.out hk)
      have HM := hide hmv
      obtain ⟨vv, hvv⟩ : ∃ vv, el ys k = vv := ⟨_, rfl⟩
      rw [hvv] at HI
      clear hmv hsr hvv
      go_wp2_with fail
      obtain ⟨wo, rfl⟩ : ∃ wo : World, wo = wr := ⟨_, rfl⟩
      go_loopw [9] (fun i wr => ∃ (j : Nat) (zs : List Int), a ≤ j ∧ j ≤ k ∧ i = .int .i64 j ∧ Rw w0 wr B gb n c zs ∧ Mv n a (k + 1) xs zs ∧ InsS κ zs a j k vv) (fun i _ => (intOf i).toNat)
      case atStart => exact ⟨k, ys, by omega, Nat.le_refl _, rfl, hr, HM.out.mono (Nat.le_refl _) (by omega), HI.out⟩
      case round =>
        clear HI HM hr
        obtain ⟨j, zs, haj, hjk, rfl, hr, hmv, hin⟩ := hrel
        have HM := hide hmv
        have HI := hide hin
        clear hmv hin
        by_cases hja : a < j
        · have d1 : decide ((a : Int) < (j : Int)) = true := decide_eq_true (by omega)
          obtain ⟨l, hl⟩ : ∃ l, j = l + 1 := ⟨j - 1, by omega⟩
          have em : (j : Int) - 1 = (l : Int) := by omega
          have emw : IntKind.i64.wrap (l : Int) = (l : Int) := by rw [IntKind.wrap_i64]; omega
          have HL := hide hl
          have ln : l < n := by omega
          have jn : j < n := by omega
          have b1 : (0 : Int) ≤ (l : Int) := by omega
          have b2 : (l : Int) < (n : Int) := by omega
          have b3 : (0 : Int) ≤ (j : Int) := by omega
          have b4 : (j : Int) < (n : Int) := by omega
          have cx := hr.at_ jn
          have cy := hr.at_ ln
          have HC := hide (HE.out.at_ hr (HM.out.pm HP.out) jn ln)
          have HEV := hide HI.out.here
          obtain ⟨D, hD⟩ : ∃ D, κ (el zs j) - κ (el zs l) = D := ⟨_, rfl⟩
          rw [hD] at HC
          have HRS := hide (fun q => ((hr.drewN q).swp (i := j) (j := l) (by omega)))
          have HMS := hide (HM.out.trans (Mv.swp (n := n) (a := a) (b := k + 1) hr.len (i := j) (j := l) (by omega) (by omega) (by omega)))
          have hne : j ≠ l := by omega
          have hne2 : l ≠ j := by omega
          by_cases hc : D < 0
          · have t1 : decide (D < 0) = true := decide_eq_true hc
            have HNX := hide (show InsS κ (swp zs j l) a l k vv by
              have := ins_step HI.out hja hjk (by rw [hr.len]; omega) (by rw [show j - 1 = l by omega, ← HEV.out]; omega)
              rwa [show j - 1 = l by omega] at this)
            clear hD hl
            obtain ⟨x, hx⟩ : ∃ x, el zs j = x := ⟨_, rfl⟩
            obtain ⟨y, hy⟩ : ∃ y, el zs l = y := ⟨_, rfl⟩
            rw [hx] at cx HRS HC
            rw [hy] at cy HRS HC
            have HX := hide (And.intro hx hy)
            clear hx hy hc
            go_wp2_with fail
            go_quiet ((exact HC.out _))
            obtain ⟨w2, hw2⟩ : ∃ w2, wr.drewN nq = w2 := ⟨_, rfl⟩
            have hr2 := hr.drewN nq
            have HRS2 := hide (HRS.out nq)
            rw [hw2] at hr2 HRS2 ⊢
            clear hw2 HRS cx cy hr
            have cx := hr2.at_ jn
            have cy := hr2.at_ ln
            rw [HX.out.1] at cx
            rw [HX.out.2] at cy
            have fx := hr2.own.free j
            have fy := hr2.own.free l
            obtain ⟨v1, e1⟩ := cell?_setCell_some (w := w2) (p := ⟨gb, j, none⟩) (x := .int .i64 y) (q := ⟨gb, l, none⟩) (v := .int .i64 y) (by go_simp)
            obtain ⟨v2, e2⟩ := cell?_setCell_some (w := w2) (p := ⟨gb, l, none⟩) (x := .int .i64 x) (q := ⟨gb, j, none⟩) (v := .int .i64 x) (by go_simp)
            go_wp2_with fail
            go_region
            all_goals
              go_wp2_with fail
              go_roundw
              case rel => exact ⟨l, _, by omega, by omega, rfl, by first | exact HRS2.out | exact HRS2.out.drew, HMS.out, HNX.out⟩
              case measure => simp [intOf]; omega
          · have t1 : decide (D < 0) = false := decide_eq_false hc
            have HDN := hide (ins_done HI.out hjk (fun _ => by rw [show j - 1 = l by omega, ← HEV.out]; omega) haj)
            clear hD hl hc
            obtain ⟨x, hx⟩ : ∃ x, el zs j = x := ⟨_, rfl⟩
            obtain ⟨y, hy⟩ : ∃ y, el zs l = y := ⟨_, rfl⟩
            rw [hx] at cx HC
            rw [hy] at cy HC
            clear hx hy
            go_wp2_with fail
            go_quiet ((exact HC.out _))
            go_wp2_with fail
            go_roundw
            case rel => exact ⟨k + 1, zs, by omega, by omega, by go_num, hr.drewN nq, HM.out, HDN.out⟩
            case measure => simp [intOf]; omega
        · have d1 : decide ((a : Int) < (j : Int)) = false := decide_eq_false (by omega)
          have HDN := hide (ins_done HI.out hjk (fun h => absurd h hja) haj)
          go_wp2_with fail
          go_quiet (fail)
          go_wp2_with fail
          go_roundw
          case rel => exact ⟨k + 1, zs, by omega, by omega, by go_num, hr.drewN nq, HM.out, HDN.out⟩
          case measure => simp [intOf]; omega
    · obtain rfl : k = b := by omega
      go_wp2_with fail
      go_end0
      exact ⟨ys, rfl, hr, hmv, hsr⟩
end
end Go.Proofs.Ytkliebhpdcjdgaa
