/-
  slices.stableCmpFunc, SortStableFunc at int, at most 40 of them: the walks. Conditions: the slice is a row of the call's own that holds each number below its length once; what the function value answers.
-/
import Derived.Test.YtkliebhpdcjdgaaSort4
namespace Go.Proofs.Ytkliebhpdcjdgaa
open Go.RowKit

theorem SymPost.crs {κ : Int → Int} {n m b : Nat} {xs ys zs : List Int} (h1 : SymPost κ n 0 m xs ys) (h2 : SymPost κ n m b ys zs) (hs : Stb κ xs 0 n) (hb : b ≤ n) (hm : 0 < m) (hmb : m < b) (hl : xs.length = n) : SymPre κ n 0 m b zs :=
  ⟨hm, hmb, hb, by rw [h2.mv.len, h1.mv.len, hl], fun i j a b c => by rw [h2.mv.out i (by omega), h2.mv.out j (by omega)]; exact h1.srt i j a b c, h2.srt,
    Stb.crs (fun i j a b c => hs i j a b (by omega)) h1.mv h2.mv⟩
theorem Stb.of_mv {κ : Int → Int} {n m : Nat} {xs ys : List Int} (hs : Stb κ xs 0 n) (h : Mv n 0 m xs ys) : Stb κ ys m n := fun i j a b c => by
  rw [h.out i (by omega), h.out j (by omega)]; exact hs i j (by omega) b c
section
variable {w0 w : World} {B gb n c : Nat} {xs : List Int} {g : FuncId} {v : Value} {κ : Int → Int}
set_option maxRecDepth 100000 in
set_option maxHeartbeats 3200000 in
theorem stable_any (E : SortEnv B w0 g v κ n) (hn : n ≤ 40) (h : Rw w0 w B gb n c xs) (hp : Pm n xs) (hs : Stb κ xs 0 n) :
    Calls Try.prog 123 #[.slice (some ⟨gb, 0, none⟩) n c, .int .i64 (n : Int), .func (.func g) #[] #[v]] w (SrtRet κ w0 B gb n c 0 n xs) := by
  have HE := hide E
  have HP := hide hp
  have HS := hide hs
  have HL := hide h.len
  clear E hp hs
  go_enter Try.func123, Try.ntmps123
  go_wp2_with fail
  go_loopw [7, 8] (fun v7 v8 wr => (v7 = .int .i64 0 ∧ v8 = .int .i64 20 ∧ Rw w0 wr B gb n c xs) ∨ (20 ≤ n ∧ v7 = .int .i64 20 ∧ v8 = .int .i64 40 ∧ ∃ ys, Rw w0 wr B gb n c ys ∧ SymPost κ n 0 20 xs ys) ∨ (40 ≤ n ∧ v7 = .int .i64 40 ∧ v8 = .int .i64 60 ∧ ∃ y1 ys, Rw w0 wr B gb n c ys ∧ SymPost κ n 0 20 xs y1 ∧ SymPost κ n 20 40 y1 ys)) (fun _ v8 _ => 60 - (intOf v8).toNat)
  case atStart => exact .inl ⟨rfl, rfl, h⟩
  case round =>
    clear h
    rcases hrel with ⟨rfl, rfl, hr⟩ | ⟨hge, rfl, rfl, ys, hr, hy⟩ | ⟨hge, rfl, rfl, y1, ys, hr, hy1, hy⟩
    · by_cases hc : 20 ≤ n
      · go_wp2_with fail
        refine (insertion_any (a := 0) (b := 20) HE.out hr HP.out (fun i j a b c => HS.out i j a b (by omega)) (by omega) hc (by omega)).mono ?_
        rintro e w1 ⟨ys, rfl, hr1, hy⟩
        have HY := hide hy
        clear hy
        go_wp2_with fail
        go_roundw
        case rel => exact .inr (.inl ⟨hc, rfl, rfl, ys, hr1, HY.out⟩)
        case measure => simp [intOf]
      · go_wp2_with fail
        refine (insertion_any (a := 0) (b := n) HE.out hr HP.out HS.out (by omega) (Nat.le_refl _) (by omega)).mono ?_
        rintro e w1 ⟨ys, rfl, hr1, hy⟩
        have HY := hide hy
        clear hy
        go_wp2_with fail
        go_loopw [6] (fun v6 wr => v6 = .int .i64 20 ∧ Rw w0 wr B gb n c ys) (fun _ _ => 0)
        case atStart => exact ⟨rfl, hr1⟩
        case round =>
          clear hr1
          obtain ⟨rfl, hr1⟩ := hrel
          go_wp2_with fail
          go_end0
          exact ⟨ys, rfl, hr1, HY.out⟩
    · have HY := hide hy
      clear hy
      by_cases hc : 40 ≤ n
      · go_wp2_with fail
        refine (insertion_any (a := 20) (b := 40) HE.out hr (HY.out.mv.pm HP.out) (fun i j a b c => HS.out.of_mv HY.out.mv i j a b (by omega)) (by omega) hc (by omega)).mono ?_
        rintro e w1 ⟨zs, rfl, hr1, hz⟩
        have HZ := hide hz
        clear hz
        go_wp2_with fail
        go_roundw
        case rel => exact .inr (.inr ⟨hc, rfl, rfl, ys, zs, hr1, HY.out, HZ.out⟩)
        case measure => simp [intOf]
      · go_wp2_with fail
        refine (insertion_any (a := 20) (b := n) HE.out hr (HY.out.mv.pm HP.out) (HS.out.of_mv HY.out.mv) hge (Nat.le_refl _) (by omega)).mono ?_
        rintro e w1 ⟨zs, rfl, hr1, hz⟩
        have HZ := hide hz
        clear hz
        go_wp2_with fail
        go_loopw [6] (fun v6 wr => (v6 = .int .i64 20 ∧ Rw w0 wr B gb n c zs) ∨ (v6 = .int .i64 40 ∧ ∃ us, Rw w0 wr B gb n c us ∧ SymPost κ n 0 n xs us)) (fun v6 _ => 60 - (intOf v6).toNat)
        case atStart => exact .inl ⟨rfl, hr1⟩
        case round =>
          clear hr1
          rcases hrel with ⟨rfl, hr1⟩ | ⟨rfl, us, hr1, hu⟩
          · by_cases h20 : 20 < n
            · have HC := hide (SymPost.crs HY.out HZ.out HS.out (Nat.le_refl _) (by omega) h20 HL.out)
              go_wp2_with fail
              obtain ⟨wo, rfl⟩ : ∃ wo : World, wo = wr := ⟨_, rfl⟩
              go_loopw [7, 8] (fun v7 v8 wr => v7 = .int .i64 0 ∧ v8 = .int .i64 40 ∧ Rw w0 wr B gb n c zs) (fun _ _ _ => 0)
              case atStart => exact ⟨rfl, rfl, hr1⟩
              case round =>
                clear hr1
                obtain ⟨rfl, rfl, hr1⟩ := hrel
                go_wp2_with fail
                refine (sym_any HE.out (by omega) n 0 20 n zs _ (by omega) hr1 (HZ.out.mv.pm (HY.out.mv.pm HP.out)) HC.out).mono ?_
                rintro e w2 ⟨us, rfl, hr2, hu⟩
                have HU := hide hu
                clear hu
                go_wp2_with fail
                go_roundw
                case rel => exact .inr ⟨rfl, us, hr2, ((HY.out.mv.mono (Nat.le_refl _) hge).trans (HZ.out.mv.mono (by omega) (Nat.le_refl _))).trans HU.out.mv, HU.out.srt⟩
                case measure => simp [intOf]
            · go_wp2_with fail
              go_end0
              have e : n = 20 := by omega
              exact ⟨zs, rfl, hr1, (HY.out.mv.mono (Nat.le_refl _) hge).trans (HZ.out.mv.mono (by omega) (Nat.le_refl _)), fun i j a b c => by rw [HZ.out.mv.out i (by omega), HZ.out.mv.out j (by omega)]; exact HY.out.srt i j a b (by omega)⟩
          · have HU := hide hu
            clear hu
            go_wp2_with fail
            go_end0
            exact ⟨us, rfl, hr1, HU.out⟩
    · have HY1 := hide hy1
      have HY := hide hy
      clear hy1 hy
      obtain rfl : n = 40 := by omega
      go_wp2_with fail
      refine (insertion_any (a := 40) (b := 40) HE.out hr (HY.out.mv.pm (HY1.out.mv.pm HP.out)) (fun i j a b c => by omega) (by omega) (Nat.le_refl _) (by omega)).mono ?_
      rintro e w1 ⟨zs, rfl, hr1, hz⟩
      have HZ := hide (show SymPost κ 40 20 40 y1 zs from ⟨HY.out.mv.trans (hz.mv.mono (by omega) (Nat.le_refl _)), fun i j a b c => by rw [hz.mv.out i (by omega), hz.mv.out j (by omega)]; exact HY.out.srt i j a b c⟩)
      have HC := hide (SymPost.crs HY1.out HZ.out HS.out (Nat.le_refl _) (by omega) (by omega) HL.out)
      clear hz hr
      go_wp2_with fail
      go_loopw [6] (fun v6 wr => (v6 = .int .i64 20 ∧ Rw w0 wr B gb 40 c zs) ∨ (v6 = .int .i64 40 ∧ ∃ us, Rw w0 wr B gb 40 c us ∧ SymPost κ 40 0 40 xs us)) (fun v6 _ => 60 - (intOf v6).toNat)
      case atStart => exact .inl ⟨rfl, hr1⟩
      case round =>
        clear hr1
        rcases hrel with ⟨rfl, hr1⟩ | ⟨rfl, us, hr1, hu⟩
        · go_wp2_with fail
          obtain ⟨wo, rfl⟩ : ∃ wo : World, wo = wr := ⟨_, rfl⟩
          go_loopw [7, 8] (fun v7 v8 wr => (v7 = .int .i64 0 ∧ v8 = .int .i64 40 ∧ Rw w0 wr B gb 40 c zs) ∨ (v7 = .int .i64 40 ∧ v8 = .int .i64 80 ∧ ∃ us, Rw w0 wr B gb 40 c us ∧ SymPost κ 40 0 40 xs us)) (fun _ v8 _ => 80 - (intOf v8).toNat)
          case atStart => exact .inl ⟨rfl, rfl, hr1⟩
          case round =>
            clear hr1
            rcases hrel with ⟨rfl, rfl, hr1⟩ | ⟨rfl, rfl, us, hr1, hu⟩
            · go_wp2_with fail
              refine (sym_any HE.out (by omega) 40 0 20 40 zs _ (by omega) hr1 (HZ.out.mv.pm (HY1.out.mv.pm HP.out)) HC.out).mono ?_
              rintro e w2 ⟨us, rfl, hr2, hu⟩
              have HU := hide hu
              clear hu
              go_wp2_with fail
              go_roundw
              case rel => exact .inr ⟨rfl, rfl, us, hr2, ((HY1.out.mv.mono (Nat.le_refl _) (by omega)).trans (HZ.out.mv.mono (by omega) (Nat.le_refl _))).trans HU.out.mv, HU.out.srt⟩
              case measure => simp [intOf]
            · have HU := hide hu
              clear hu
              go_wp2_with fail
              go_roundw
              case rel => exact .inr ⟨rfl, us, hr1, HU.out⟩
              case measure => simp [intOf]
        · have HU := hide hu
          clear hu
          go_wp2_with fail
          go_end0
          exact ⟨us, rfl, hr1, HU.out⟩
set_option maxHeartbeats 800000 in
theorem sortStable_any (E : SortEnv B w0 g v κ n) (hn : n ≤ 40) (h : Rw w0 w B gb n c xs) (hp : Pm n xs) (hs : Stb κ xs 0 n) :
    Calls Try.prog 88 #[.slice (some ⟨gb, 0, none⟩) n c, .func (.func g) #[] #[v]] w (SrtRet κ w0 B gb n c 0 n xs) := by
  go_enter Try.func88, Try.ntmps88
  go_wp2_with fail
  refine (stable_any E hn h hp hs).mono ?_
  rintro e w1 ⟨ys, rfl, hr1, hy⟩
  have HY := hide hy
  clear hy
  go_wp2_with fail
  go_end0
  exact ⟨ys, rfl, hr1, HY.out⟩
end
end Go.Proofs.Ytkliebhpdcjdgaa
