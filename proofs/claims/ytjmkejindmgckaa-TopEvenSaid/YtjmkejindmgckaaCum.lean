/-
  cum.sums, sort.Search over cum.Pick's closure, cum.Pick, culref.Pick: the walks. Condition: the slice reads as a list of weights.
-/
import Derived.Test.YtjmkejindmgckaaCumP
import Derived.Test.YtjmkejindmgckaaWeights
import Derived.Test.YtjmkejindmgckaaApp
import Derived.Test.YtjmkejindmgckaaClone
import Derived.Test.YtjmkejindmgckaaOwn2
import Derived.Deep.QuietTactic
import Derived.BigQuiet
namespace Go.Proofs.Ytjmkejindmgckaa
open Go.RowKit

def sumsTo (n : Nat) (l : List Int) (k : Nat) : List Int := (List.range n).map fun (i : Nat) => if i < k then wsum l (i + 1) else 0
theorem sumsTo_zero (n : Nat) (l : List Int) : sumsTo n l 0 = List.replicate n 0 := by
  apply List.ext_getElem?
  intro i
  simp only [sumsTo, List.getElem?_map, List.getElem?_replicate]
  by_cases h : i < n <;> simp [h]
theorem sumsTo_at {n k i : Nat} {l : List Int} (h : i < n) : (sumsTo n l k)[i]? = some (if i < k then wsum l (i + 1) else 0) := by simp [sumsTo, h]
theorem sumsTo_next {n k : Nat} {l : List Int} (h : k < n) : (sumsTo n l k).set k (wsum l (k + 1)) = sumsTo n l (k + 1) := by
  apply List.ext_getElem?
  intro m
  by_cases hm : m < n
  · rw [sumsTo_at hm, List.getElem?_set, sumsTo_at hm]
    have : (sumsTo n l k).length = n := by simp [sumsTo]
    rw [this]
    by_cases e : k = m
    · subst e; simp [hm]
    · rw [if_neg e]
      by_cases h2 : m < k
      · rw [if_pos h2, if_pos (by omega)]
      · rw [if_neg h2, if_neg (by omega)]
  · rw [List.getElem?_eq_none (by simp [sumsTo]; omega), List.getElem?_eq_none (by simp [sumsTo]; omega)]
theorem sumsTo_all (n : Nat) (l : List Int) : sumsTo n l n = sumsOf n l := by
  apply List.ext_getElem?
  intro m
  by_cases hm : m < n
  · rw [sumsTo_at hm, sumsOf_at hm, if_pos hm]
  · rw [List.getElem?_eq_none (by simp [sumsTo]; omega), List.getElem?_eq_none (by simp [sumsOf]; omega)]
def RowRet (w : World) (n : Nat) (zs : List Int) (e : Ending) (w' : World) : Prop :=
  ∃ A c, e = .returned (.slice A n c) ∧ Own w' w.heap.size 3 1 A n c (ints zs) ∧ Below w.heap.size w w'
section
variable {A : Option Addr} {n c : Nat} {xs : List Int} {w : World}
set_option maxRecDepth 20000 in
set_option maxHeartbeats 1600000 in
theorem sums_any (h : Si w A n c xs) (hn : n ≤ 40) (hw : ∀ x ∈ xs, 0 ≤ x ∧ x ≤ 1000000000000) :
    Calls Try.prog 67 #[.slice A n c] w (RowRet w n (sumsOf n xs)) := by
  have hm := h.len_max
  have HL := hide h.ilen
  have HW := hide hw
  clear hw
  go_enter Try.func67, Try.ntmps67
  go_wp2_with (at_make; refine wpList_make_sl T_int rfl rfl _ _ rfl (by rfl) (by rfl) (by omega) (by simp only [maxLen]; omega) ?_; intro w2 own2 hb2; rw [ints_zero, ← sumsTo_zero n xs] at own2)
  go_loopw [4, 12] (fun o i wr => ∃ k : Nat, k ≤ n ∧ i = .int .i64 k ∧ o = .int .i64 (wsum xs k) ∧ Own wr w.heap.size 3 1 (some ⟨w.heap.size, 0, none⟩) n n (ints (sumsTo n xs k)) ∧ Below w.heap.size w wr) (fun _ i _ => n - (intOf i).toNat)
  case atStart => exact ⟨0, Nat.zero_le _, rfl, rfl, own2, hb2⟩
  case round =>
    clear own2 hb2
    obtain ⟨k, hk, rfl, rfl, hown, hb⟩ := hrel
    by_cases hlt : k < n
    · obtain ⟨ad, x, rfl, hbk, hx, hc⟩ := (h.on hb).icell hlt
      obtain ⟨s1, s2⟩ := wsum_bound HW.out (b := k) (by rw [HL.out]; exact hk)
      obtain ⟨s3, s4⟩ := HW.out x (List.mem_of_getElem? hx)
      have HS := hide (wsum_step hx)
      have hcb := hown.cell (j := k) (u := .int .i64 0) (by rw [ints_getElem?, sumsTo_at hlt, if_neg (by omega)]; rfl)
      have hfb := hown.free k
      have HN := hide (sumsTo_next (l := xs) hlt)
      clear hx
      obtain ⟨S, hS⟩ : ∃ S, wsum xs k = S := ⟨_, rfl⟩
      rw [hS] at s1 s2 HS ⊢
      clear hS
      go_wp2_with fail
      go_roundw
      case rel =>
        refine ⟨k + 1, by omega, by go_num, by rw [HS.out], ?_, below_set hb (Nat.le_refl _) _⟩
        rw [← HN.out, ints_set, HS.out]
        exact hown.set k _
      case measure => simp [intOf]; omega
    · obtain rfl : k = n := by omega
      rw [sumsTo_all] at hown
      go_wp2_with fail
      go_ret
      exact ⟨_, _, rfl, hown, hb⟩
end
section
variable {w : World} {b8 b3 n c : Nat} {A : Option Addr} {zs xs : List Int} {part : Int}
set_option maxRecDepth 20000 in
set_option maxHeartbeats 1600000 in
theorem pickFn_any (h8 : w.cell? ⟨b8, 0, none⟩ = some (.slice A n c)) (h3 : w.cell? ⟨b3, 0, none⟩ = some (.int .i64 part)) (hs : Si w A n c zs) {i : Nat} (hi : i < n) {x : Int} (hx : zs[i]? = some x) :
    Calls Try.prog 77 #[.int .i64 i, .pointer (some ⟨b8, 0, none⟩), .pointer (some ⟨b3, 0, none⟩)] w (Quiet w (.bool (decide (part < x)))) := by
  have hm := hs.len_max
  obtain ⟨ad, y, rfl, hb, hy, hc⟩ := hs.icell hi
  rw [hx] at hy
  injection hy with hy
  subst hy
  clear hx
  go_enter Try.func77, Try.ntmps77
  go_wp2_with fail
  go_quiet (fail)
  go_wp2_with fail
  go_ret
  exact ⟨rfl, _, rfl⟩
set_option maxRecDepth 20000 in
set_option maxHeartbeats 1600000 in
theorem search_pick (h8 : w.cell? ⟨b8, 0, none⟩ = some (.slice A n c)) (h3 : w.cell? ⟨b3, 0, none⟩ = some (.int .i64 part)) (hs : Si w A n c (sumsOf n xs)) (hn : n ≤ 40) (hp : 0 ≤ part) (hpa : part < wsum xs n) :
    Calls Try.prog 76 #[.int .i64 n, .func (.func 77) #[] #[.pointer (some ⟨b8, 0, none⟩), .pointer (some ⟨b3, 0, none⟩)]] w fun e w' => ∃ i : Nat, i < n ∧ Falls xs part i ∧ e = .returned (.int .i64 i) ∧ ∃ q, w' = w.drewN q := by
  have eg := enters_of Try.func77 (by kernel_rfl) rfl
  have H := hide (fun (q i : Nat) (hi : i < n) => pickFn_any (w := w.drewN q) (b8 := b8) (b3 := b3) (part := part) h8 h3 (hs.drewN q) hi (sumsOf_at (l := xs) hi))
  have HPA := hide hpa
  clear h8 h3 hs hpa
  go_enter Try.func76, Try.ntmps76
  go_wp2_with fail
  go_loopw [5, 6] (fun vl vh wr => ∃ lo hi q : Nat, lo ≤ hi ∧ hi ≤ n ∧ vl = .int .i64 lo ∧ vh = .int .i64 hi ∧ wsum xs lo ≤ part ∧ (hi = n ∨ part < wsum xs (hi + 1)) ∧ wr = w.drewN q) (fun l h _ => (intOf h - intOf l).toNat)
  case atStart => exact ⟨0, n, 0, Nat.zero_le _, Nat.le_refl _, rfl, rfl, hp, .inl rfl, rfl⟩
  case round =>
    obtain ⟨lo, hi, q, h1, h2, rfl, rfl, h3, h4, rfl⟩ := hrel
    have H3 := hide h3
    have H4 := hide h4
    clear h3 h4
    by_cases hlt : lo < hi
    · obtain ⟨m, hm⟩ : ∃ m, (lo + hi) / 2 = m := ⟨_, rfl⟩
      have hm1 : lo ≤ m := by omega
      have hm2 : m < hi := by omega
      have em : ((lo : Int) + (hi : Int)) / 2 = (m : Int) := by omega
      have HM := hide hm
      have K := H.out q m (by omega)
      clear hm
      by_cases hpx : part < wsum xs (m + 1)
      · rw [decide_eq_true hpx] at K
        have KK := hide K
        have HX := hide hpx
        clear K hpx
        go_wp2_with fail
        refine KK.out.mono ?_
        rintro e w' ⟨rfl, q2, rfl⟩
        go_wp2_with fail
        go_roundw
        case rel => exact ⟨lo, m, q + q2, by omega, by omega, rfl, rfl, H3.out, .inr HX.out, rfl⟩
        case measure => simp [intOf]; omega
      · rw [decide_eq_false hpx] at K
        have KK := hide K
        have HX := hide (show wsum xs (m + 1) ≤ part by omega)
        clear K hpx
        go_wp2_with fail
        refine KK.out.mono ?_
        rintro e w' ⟨rfl, q2, rfl⟩
        go_wp2_with fail
        go_roundw
        case rel => exact ⟨m + 1, hi, q + q2, by omega, by omega, by go_num, rfl, HX.out, H4.out, rfl⟩
        case measure => simp [intOf]; omega
    · obtain rfl : lo = hi := by omega
      go_wp2_with fail
      go_ret
      refine ⟨lo, ?_, ⟨H3.out, ?_⟩, rfl, _, rfl⟩
      · rcases Nat.lt_or_ge lo n with h | h
        · exact h
        · have e : lo = n := by omega
          have := H3.out
          have := HPA.out
          rw [e] at *
          omega
      · rcases H4.out with h | h
        · have := H3.out
          have := HPA.out
          rw [h] at *
          omega
        · exact h
end
end Go.Proofs.Ytjmkejindmgckaa
