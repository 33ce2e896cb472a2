/- Proves the parts of the claim that its last text joins: Eq, Clone, Pond, Pond2. Conditions: those that each theorem names. -/
import Derived.Test.YtjpbjghdplbdcaaGreatDoorProg
import Derived.Test.YtjpbjghdplbdcaaGreatDoorM01
import Derived.Test.YtjpbjghdplbdcaaGreatDoorM05
import Derived.WalkKit
import Derived.WalkSpells
import Derived.Deep.QuietTactic
import Derived.BigQuiet
import Derived.Test.YtjpbjghdplbdcaaGreatDoorM02
import Derived.RegionTactic
import Derived.BigRegion
import Derived.Deep.RegionHeld3
import Derived.Deep.DeepCutAuto
section
namespace Go.Proofs.YtjpbjghdplbdcaaGreatDoor
open Go.RowKit
set_option maxHeartbeats 400000 in
theorem equal_ints (A1 A2 : Option Addr) (n1 c1 n2 c2 : Nat) (xs ys : List Int) (w : World) (h1 : Si w A1 n1 c1 xs) (h2 : Si w A2 n2 c2 ys) :
    Calls Tryz.prog 27 #[.slice A1 n1 c1, .slice A2 n2 c2] w (Quiet w (.bool (same xs ys))) := by
  have hm1 := h1.len_max
  have hm2 := h2.len_max
  have l1 := h1.ilen
  have l2 := h2.ilen
  have L1 := hide l1
  have L2 := hide l2
  clear l1 l2
  go_enter Tryz.func27, Tryz.ntmps27
  by_cases hn : n1 = n2
  · subst hn
    go_wp2
    go_loopw [13] (fun i wr => ∃ k : Nat, k ≤ n1 ∧ i = .int .i64 k ∧ xs.take k = ys.take k ∧ ∃ q, wr = w.drewN q) (fun i _ => n1 - (intOf i).toNat)
    case atStart => exact ⟨0, Nat.zero_le _, rfl, by simp, 0, rfl⟩
    case round =>
      obtain ⟨k, hk, rfl, htk, q, rfl⟩ := hrel
      have HT := hide htk
      clear htk
      by_cases hlt : k < n1
      · obtain ⟨ad, x, rfl, hb, hx, hc⟩ := h1.icell hlt
        obtain ⟨ae, y, rfl, hb2, hy, hd⟩ := h2.icell hlt
        have HX := hide hx
        have HY := hide hy
        clear hx hy
        by_cases hxy : x = y
        · have t1 : (x != y) = false := by simp [hxy]
          have HXY := hide hxy
          clear hxy
          go_wp2
          go_quiet (fail)
          go_wp2
          go_roundw
          case rel => exact ⟨k + 1, by omega, by go_num, take_next HT.out HX.out HY.out HXY.out, _, rfl⟩
          case measure => simp [intOf]; omega
        · have t1 : (x != y) = true := by simp [hxy]
          go_wp2
          go_quiet (fail)
          go_wp2
          go_ret
          exact quiet_mk (by rw [same_no (differ_at HX.out HY.out hxy)]; rfl) (World.drewN_drewN _ _ _)
      · go_wp2
        go_ret
        refine quiet_mk (q := q) ?_ rfl
        have h := HT.out
        rw [List.take_of_length_le (by have := L1.out; omega), List.take_of_length_le (by have := L2.out; omega)] at h
        rw [same_yes h]; rfl
  · go_wp2
    go_ret
    refine quiet_mk (q := 0) ?_ rfl
    rw [same_no (fun e => hn (by rw [← L1.out, ← L2.out, e]))]; rfl
theorem equal_yes (A1 A2 : Option Addr) (n c1 c2 : Nat) (xs : List Int) (w : World) (h1 : Si w A1 n c1 xs) (h2 : Si w A2 n c2 xs) :
    Calls Tryz.prog 27 #[.slice A1 n c1, .slice A2 n c2] w (Quiet w (.bool true)) :=
  (equal_ints A1 A2 n c1 n c2 xs xs w h1 h2).mono fun e w' h => by rw [same_yes rfl] at h; exact h
end Go.Proofs.YtjpbjghdplbdcaaGreatDoor
end
section
namespace Go.Proofs.YtjpbjghdplbdcaaGreatDoor
open Go.RowKit
theorem T_int : ElemT Tryz.prog 43 3 (.int .i64 0) 1 8 := ⟨Tryz.underlying43, by kernel_rfl, rfl, by decide⟩

def Cloned (w : World) (e : TypeId) (size n : Nat) (xs : List Value) (v : Value) (w' : World) : Prop := ∃ A c, v = .slice A n c ∧ Own w' w.heap.size e size A n c xs

set_option maxHeartbeats 400000 in
theorem clone_ints (A : Option Addr) (n c : Nat) (xs : List Int) (w : World) (h : Si w A n c xs) (hr : n * 8 ≤ 140737488355328) :
    Calls Tryz.prog 68 #[.slice A n c] w (Ret w (Cloned w 3 1 n (ints xs))) := by
  have hm := h.len_max
  rcases A with _ | ad
  · have hc := h.nul rfl
    subst hc
    have hn : n = 0 := by have := h.cap; omega
    subst hn
    have hx : xs = [] := List.eq_nil_of_length_eq_zero h.ilen
    subst hx
    go_enter Tryz.func68, Tryz.ntmps68
    have r := fun w => Lib.run_eql_slice_nil (P := Tryz.prog) w 43 3 none 0 0 0 0 Tryz.underlying43
    go_wp2
    go_ret
    exact ⟨_, rfl, Below.refl _ _, none, 0, rfl, Own.nil _ _ _ _⟩
  · have r := fun w => Lib.run_eql_slice_nil (P := Tryz.prog) w 43 3 (some ad) n c 0 0 Tryz.underlying43
    go_enter Tryz.func68, Tryz.ntmps68
    go_wp2_with (at_builtin; refine wpList_append_sl T_int rfl _ _ rfl (by rfl) (by rfl) (Own.new w w.heap.size 3 1 0 #[] (Nat.le_refl _) (Nat.zero_le _) rfl) (h.alloc (Nat.le_refl _) _) (ints_one _) (by simp only [maxLen]; omega) (by omega) (by simp) ?_; intro A' c' w' ap)
    go_ret
    have hb : Below w.heap.size w w' := ((Below.refl _ w).alloc (Nat.le_refl _) _).trans ap.below
    exact ⟨_, rfl, hb, A', c', by simp, by simpa using ap.own⟩
end Go.Proofs.YtjpbjghdplbdcaaGreatDoor
end
section
namespace Go.Proofs.YtjpbjghdplbdcaaGreatDoor
open Go.RowKit
def pondErr (K S n : Int) : Int := if K < 1 ∨ 16 < K ∨ S < 0 ∨ 1000000000000 < S then 1 else if n ≠ min K S then 7 else 0
theorem ret_int {a b : Int} (h : a = b) : Ending.returned (.int .i64 a) = .returned (.int .i64 b) := by rw [h]

set_option maxHeartbeats 800000 in
theorem pondCheck_any (K S : Int) (A : Option Addr) (n c : Nat) (hn : n ≤ 9223372036854775807) (w : World) :
    Calls Tryz.prog 238 #[.agg #[.int .i64 K, .int .i64 S, .slice A n c]] w fun e w' => e = .returned (.int .i64 (pondErr K S n)) ∧ Below w.heap.size w w' := by
  go_enter Tryz.func238, Tryz.ntmps238
  go_wp2
  all_goals (go_ret; refine ⟨ret_int ?_, below_alloc (Below.refl _ _) _⟩; unfold pondErr; simp only [bne_iff_ne, ne_eq, bne_eq_false_iff_eq] at *; omega)

def putErr (K S n d : Int) : Int := if pondErr K S n ≠ 0 then pondErr K S n else if S = 1000000000000 then 2 else if d < 0 ∨ S < d then 1 else 0
def came (K S : Int) (xs : List Int) (x d : Int) : List Int := if S < K then xs ++ [x] else if d < K then xs.set d.toNat x else xs

set_option maxHeartbeats 800000 in
theorem pondPut_bad (K S : Int) (A : Option Addr) (n c : Nat) (x d : Int) (hn : n ≤ 9223372036854775807) (he : ¬ putErr K S n d = 0) (w : World) :
    Calls Tryz.prog 187 #[.agg #[.int .i64 K, .int .i64 S, .slice A n c], .int .i64 x, .int .i64 d] w fun e w' =>
      e = .returned (.tuple #[.agg #[.int .i64 0, .int .i64 0, .slice none 0 0], .int .i64 (putErr K S n d)]) ∧ Below w.heap.size w w' := by
  by_cases h1 : pondErr K S n = 0
  · by_cases h2 : S = 1000000000000
    · have t1 : (S == 1000000000000) = true := by simp [h2]
      have HE := hide (show putErr K S n d = 2 by unfold putErr; rw [if_neg (by simpa using h1), if_pos h2])
      have H1 := hide h1
      have H2 := hide h2
      clear he h1 h2
      go_enter Tryz.func187, Tryz.ntmps187
      go_wp2_with fail
      have cc := pondCheck_any K S A n c hn ((w.alloc (.cells #[.int .i64 K, .int .i64 S, .slice A n c] 45)).alloc (.cells #[.int .i64 0, .int .i64 0, .slice none 0 0] 45))
      rw [H1.out] at cc
      refine cc.mono ?_
      clear cc
      rintro e w1 ⟨rfl, hb1⟩
      have hw1 : Below w.heap.size w w1 := below_on (by repeat' (first | assumption | with_reducible exact Below.refl _ _ | with_reducible apply Below.drew | with_reducible apply below_drewN | with_reducible apply below_alloc | with_reducible refine below_set ?_ ?_ _ | (simp only [World.size_alloc, World.heap_drewN]; omega) | (simp; omega))) hb1
      obtain ⟨hc, hf⟩ := bcell hb1
      have hz := hb1.size
      simp only [World.size_alloc] at hz
      go_wp2_with fail
      refine bodyPost_ret (v := .tuple #[.agg #[.int .i64 0, .int .i64 0, .slice none 0 0], .int .i64 2]) (by simp [results, Tryz.results187, go_sem, hc, hf]) rfl ?_
      rw [HE.out]
      exact ⟨rfl, by repeat' (first | assumption | with_reducible exact Below.refl _ _ | with_reducible apply Below.drew | with_reducible apply below_drewN | with_reducible apply below_alloc | with_reducible refine below_set ?_ ?_ _ | (simp only [World.size_alloc, World.heap_drewN]; omega) | (simp; omega))⟩
    · have t1 : (S == 1000000000000) = false := by simp [h2]
      have hd : d < 0 ∨ S < d := by
        simp only [putErr, h1, h2] at he
        simp at he
        omega
      have HE := hide (show putErr K S n d = 1 by simp [putErr, h1, h2, hd])
      have H1 := hide h1
      clear he h1 h2
      by_cases h3 : d < 0
      · clear hd
        go_enter Tryz.func187, Tryz.ntmps187
        go_wp2_with fail
        have cc := pondCheck_any K S A n c hn ((w.alloc (.cells #[.int .i64 K, .int .i64 S, .slice A n c] 45)).alloc (.cells #[.int .i64 0, .int .i64 0, .slice none 0 0] 45))
        rw [H1.out] at cc
        refine cc.mono ?_
        clear cc
        rintro e w1 ⟨rfl, hb1⟩
        have hw1 : Below w.heap.size w w1 := below_on (by repeat' (first | assumption | with_reducible exact Below.refl _ _ | with_reducible apply Below.drew | with_reducible apply below_drewN | with_reducible apply below_alloc | with_reducible refine below_set ?_ ?_ _ | (simp only [World.size_alloc, World.heap_drewN]; omega) | (simp; omega))) hb1
        obtain ⟨hc, hf⟩ := bcell hb1
        have hz := hb1.size
        simp only [World.size_alloc] at hz
        go_wp2_with fail
        refine bodyPost_ret (v := .tuple #[.agg #[.int .i64 0, .int .i64 0, .slice none 0 0], .int .i64 1]) (by simp [results, Tryz.results187, go_sem, hc, hf]) rfl ?_
        rw [HE.out]
        exact ⟨rfl, by repeat' (first | assumption | with_reducible exact Below.refl _ _ | with_reducible apply Below.drew | with_reducible apply below_drewN | with_reducible apply below_alloc | with_reducible refine below_set ?_ ?_ _ | (simp only [World.size_alloc, World.heap_drewN]; omega) | (simp; omega))⟩
      · have h4 : S < d := by omega
        clear hd
        go_enter Tryz.func187, Tryz.ntmps187
        go_wp2_with fail
        have cc := pondCheck_any K S A n c hn ((w.alloc (.cells #[.int .i64 K, .int .i64 S, .slice A n c] 45)).alloc (.cells #[.int .i64 0, .int .i64 0, .slice none 0 0] 45))
        rw [H1.out] at cc
        refine cc.mono ?_
        clear cc
        rintro e w1 ⟨rfl, hb1⟩
        have hw1 : Below w.heap.size w w1 := below_on (by repeat' (first | assumption | with_reducible exact Below.refl _ _ | with_reducible apply Below.drew | with_reducible apply below_drewN | with_reducible apply below_alloc | with_reducible refine below_set ?_ ?_ _ | (simp only [World.size_alloc, World.heap_drewN]; omega) | (simp; omega))) hb1
        obtain ⟨hc, hf⟩ := bcell hb1
        have hz := hb1.size
        simp only [World.size_alloc] at hz
        go_wp2_with fail
        refine bodyPost_ret (v := .tuple #[.agg #[.int .i64 0, .int .i64 0, .slice none 0 0], .int .i64 1]) (by simp [results, Tryz.results187, go_sem, hc, hf]) rfl ?_
        rw [HE.out]
        exact ⟨rfl, by repeat' (first | assumption | with_reducible exact Below.refl _ _ | with_reducible apply Below.drew | with_reducible apply below_drewN | with_reducible apply below_alloc | with_reducible refine below_set ?_ ?_ _ | (simp only [World.size_alloc, World.heap_drewN]; omega) | (simp; omega))⟩
  · have hp : (pondErr K S n != 0) = true := by simpa using h1
    have HE := hide (show putErr K S n d = pondErr K S n by simp [putErr, h1])
    clear he h1
    go_enter Tryz.func187, Tryz.ntmps187
    go_wp2_with fail
    refine (pondCheck_any K S A n c hn _).mono ?_
    rintro e w1 ⟨rfl, hb1⟩
    have hw1 : Below w.heap.size w w1 := below_on (by repeat' (first | assumption | with_reducible exact Below.refl _ _ | with_reducible apply Below.drew | with_reducible apply below_drewN | with_reducible apply below_alloc | with_reducible refine below_set ?_ ?_ _ | (simp only [World.size_alloc, World.heap_drewN]; omega) | (simp; omega))) hb1
    obtain ⟨hc, hf⟩ := bcell hb1
    have hz := hb1.size
    simp only [World.size_alloc] at hz
    go_wp2_with fail
    refine bodyPost_ret (v := .tuple #[.agg #[.int .i64 0, .int .i64 0, .slice none 0 0], .int .i64 (pondErr K S n)]) (by simp [results, Tryz.results187, go_sem, hc, hf]) rfl ?_
    rw [HE.out]
    exact ⟨rfl, by repeat' (first | assumption | with_reducible exact Below.refl _ _ | with_reducible apply Below.drew | with_reducible apply below_drewN | with_reducible apply below_alloc | with_reducible refine below_set ?_ ?_ _ | (simp only [World.size_alloc, World.heap_drewN]; omega) | (simp; omega))⟩
end Go.Proofs.YtjpbjghdplbdcaaGreatDoor
end
section
namespace Go.Proofs.YtjpbjghdplbdcaaGreatDoor
open Go.RowKit
theorem pond_ok {K S n : Int} (h : pondErr K S n = 0) : 1 ≤ K ∧ K ≤ 16 ∧ 0 ≤ S ∧ S ≤ 1000000000000 ∧ n = min K S := by
  unfold pondErr at h
  split at h
  · simp at h
  · split at h
    · simp at h
    · omega
theorem put_ok {K S n d : Int} (h : putErr K S n d = 0) : pondErr K S n = 0 ∧ S ≠ 1000000000000 ∧ 0 ≤ d ∧ d ≤ S := by
  unfold putErr at h
  split at h
  · rename_i h1; exact absurd h h1
  · rename_i h1
    split at h
    · simp at h
    · split at h
      · simp at h
      · exact ⟨by omega, by assumption, by omega, by omega⟩

def PondRet (w : World) (K S : Int) (zs : List Int) (e : Ending) (w' : World) : Prop :=
  ∃ A n c, e = .returned (.tuple #[.agg #[.int .i64 K, .int .i64 S, .slice A n c], .int .i64 0]) ∧ Own w' w.heap.size 3 1 A n c (ints zs) ∧ Below w.heap.size w w'

set_option maxRecDepth 20000 in
set_option maxHeartbeats 1600000 in
theorem pondPut_ok (K S : Int) (A : Option Addr) (n c : Nat) (xs : List Int) (x d : Int) (w : World) (h : Si w A n c xs) (he : putErr K S n d = 0) :
    Calls Tryz.prog 187 #[.agg #[.int .i64 K, .int .i64 S, .slice A n c], .int .i64 x, .int .i64 d] w (PondRet w K (S + 1) (came K S xs x d)) := by
  obtain ⟨h1, h2, h3, h4⟩ := put_ok he
  obtain ⟨k1, k2, k3, k4, k5⟩ := pond_ok h1
  have t1 : (S == 1000000000000) = false := by simp [h2]
  have hn16 : n ≤ 16 := by omega
  have hm := h.len_max
  have H1 := hide h1
  have K5 := hide k5
  have s1 : IntKind.i64.wrap (S + 1) = S + 1 := IntWalk.i64_in _ (by omega)
  clear he h1 h2 k5
  go_enter Tryz.func187, Tryz.ntmps187
  go_wp2_with fail
  have cc := pondCheck_any K S A n c hm ((w.alloc (.cells #[.int .i64 K, .int .i64 S, .slice A n c] 45)).alloc (.cells #[.int .i64 0, .int .i64 0, .slice none 0 0] 45))
  rw [H1.out] at cc
  refine cc.mono ?_
  clear cc
  rintro e w1 ⟨rfl, hb1⟩
  have hw1 : Below w.heap.size w w1 := below_on (by repeat' (first | assumption | with_reducible exact Below.refl _ _ | with_reducible apply Below.drew | with_reducible apply below_drewN | with_reducible apply below_alloc | with_reducible refine below_set ?_ ?_ _ | (simp only [World.size_alloc, World.heap_drewN]; omega) | (simp; omega))) hb1
  obtain ⟨hc, hf⟩ := bcell hb1
  have hz := hb1.size
  simp only [World.size_alloc] at hz
  have f0 : w1.cell? ⟨w.heap.size, 0, none⟩ = some (.int .i64 K) := by rw [hc _ _ (by simp; omega)]; go_simp
  have f1 : w1.cell? ⟨w.heap.size, 1, none⟩ = some (.int .i64 S) := by rw [hc _ _ (by simp; omega)]; go_simp
  have f2 : w1.cell? ⟨w.heap.size, 2, none⟩ = some (.slice A n c) := by rw [hc _ _ (by simp; omega)]; go_simp
  go_upto_region 8 with fail
  go_cut [9] (fun s9 wx => ∃ g A' c', s9 = .pointer (some ⟨g, 0, none⟩) ∧ Blk wx g 45 #[.int .i64 K, .int .i64 (S + 1), .slice A' n c'] ∧ Own wx w1.heap.size 3 1 A' n c' (ints xs) ∧ w1.heap.size ≤ g ∧ Below w1.heap.size w1 wx)
  case first =>
    go_region_held3 (fun w' => Below w1.heap.size w1 w' ∧ w'.cell? ⟨w.heap.size, 0, none⟩ = some (.int .i64 K) ∧ w'.cell? ⟨w.heap.size, 1, none⟩ = some (.int .i64 S) ∧ w'.cell? ⟨w.heap.size, 2, none⟩ = some (.slice A n c)) ((refine keep3 (by omega) f0 f1 f2 ?_; repeat' (first | assumption | with_reducible exact Below.refl _ _ | with_reducible apply Below.drew | with_reducible apply below_drewN | with_reducible apply below_alloc | with_reducible refine below_set ?_ ?_ _ | (simp only [World.size_alloc, World.heap_drewN]; omega) | (simp; omega))))
      (first | (go_at_call 68; refine (clone_ints A n c xs _ (h.upd (by repeat' (first | assumption | with_reducible exact Below.refl _ _ | with_reducible apply Below.drew | with_reducible apply below_drewN | with_reducible apply below_alloc | with_reducible refine below_set ?_ ?_ _ | (simp only [World.size_alloc, World.heap_drewN]; omega) | (simp; omega))) (Nat.le_refl _) ?_) (by omega)).mono ?_; (simp; omega); rintro e w2 ⟨v, rfl, hb2, A', c', rfl, hown⟩; have hw2 : Below w1.heap.size w1 w2 := below_on (by repeat' (first | assumption | with_reducible exact Below.refl _ _ | with_reducible apply Below.drew | with_reducible apply below_drewN | with_reducible apply below_alloc | with_reducible refine below_set ?_ ?_ _ | (simp only [World.size_alloc, World.heap_drewN]; omega) | (simp; omega))) hb2; have hz2 := hw2.size; obtain ⟨hc2, hf2⟩ := bcell hb2))
    all_goals go_wp2_with fail
    · go_meet
      refine ⟨w2.heap.size, A', c', rfl, ?_, ?_, hz2, ?_⟩
      · exact Blk.new _ _ _
      · exact (hown.alloc _).mono (by simp)
      · repeat' (first | assumption | with_reducible exact Below.refl _ _ | with_reducible apply Below.drew | with_reducible apply below_drewN | with_reducible apply below_alloc | with_reducible refine below_set ?_ ?_ _ | (simp only [World.size_alloc, World.heap_drewN]; omega) | (simp; omega))
    · go_meet
      refine ⟨w1.heap.size, A', c', rfl, ?_, ?_, Nat.le_refl _, by repeat' (first | assumption | with_reducible exact Below.refl _ _ | with_reducible apply Below.drew | with_reducible apply below_drewN | with_reducible apply below_alloc | with_reducible refine below_set ?_ ?_ _ | (simp only [World.size_alloc, World.heap_drewN]; omega) | (simp; omega))⟩
      · have hb := ((((Blk.new w1 45 #[.int .i64 0, .int .i64 0, .slice none 0 0]).drew.below hb2 (by simp)).set 0 (.int .i64 K)).set 1 (.int .i64 (S + 1))).set 2 (.slice A' n c')
        simpa using hb
      · exact (((hown.low (by simp) _).low (by simp) _).low (by simp) _).mono (by simp)
  case rest =>
    obtain ⟨g, A', c', rfl, hblk, hown, hg, hbc⟩ := hcut
    have hwc : Below w.heap.size w wc := below_on hw1 hbc
    have hzc := hbc.size
    have pb0 : Blk ((w.alloc (.cells #[.int .i64 K, .int .i64 S, .slice A n c] 45)).alloc (.cells #[.int .i64 0, .int .i64 0, .slice none 0 0] 45)) w.heap.size 45 #[.int .i64 K, .int .i64 S, .slice A n c] := (Blk.new w _ _).alloc _
    have rb0 : Blk ((w.alloc (.cells #[.int .i64 K, .int .i64 S, .slice A n c] 45)).alloc (.cells #[.int .i64 0, .int .i64 0, .slice none 0 0] 45)) (w.heap.size + 1) 45 #[.int .i64 0, .int .i64 0, .slice none 0 0] := by simpa using Blk.new (w.alloc (.cells #[.int .i64 K, .int .i64 S, .slice A n c] 45)) 45 #[.int .i64 0, .int .i64 0, .slice none 0 0]
    have pb := (pb0.below hb1 pb0.lt).below hbc (pb0.below hb1 pb0.lt).lt
    have rb := (rb0.below hb1 rb0.lt).below hbc (rb0.below hb1 rb0.lt).lt
    have q0 := hblk.at_ (i := 0) rfl
    have q1 := hblk.at_ (i := 1) rfl
    have q2 := hblk.at_ (i := 2) rfl
    have u2 := hblk.free 2
    clear hc hf f0 f1 f2 pb0 rb0
    have p0 := pb.at_ (i := 0) rfl
    have p1 := pb.at_ (i := 1) rfl
    have r0 := rb.at_ (i := 0) rfl
    have r1 := rb.at_ (i := 1) rfl
    have r2 := rb.at_ (i := 2) rfl
    have v0 := rb.free 0
    have v1 := rb.free 1
    have v2 := rb.free 2
    have ng1 : ¬ w.heap.size + 1 = g := by omega
    have ng2 : ¬ g = w.heap.size + 1 := by omega
    have hapart := hown.apart hblk (by decide)
    have na := hown.apart_blk hblk (by decide)
    by_cases hSK : S < K
    · have HC := hide (show came K S xs x d = xs ++ [x] by simp [came, hSK])
      go_wp2_with (at_builtin; refine wpList_append_sl T_int rfl _ _ rfl (by rfl) (by rfl) (hown.alloc _) (Sl.new wc _ 1 1 [.int .i64 x] (by simp [maxLen]) rfl) (ints_one [x]) (by simp only [maxLen]; omega) (by omega) (by simp; omega) ?_; intro A3 c3 w3 ap; have hw3 : Below w.heap.size w w3 := (below_alloc hwc _).trans (ap.below.mono hw1.size); have b3 := (hblk.alloc (.cells #[.int .i64 x] 3)).grown ap.grow na; have q0 := b3.at_ (i := 0) rfl; have q1 := b3.at_ (i := 1) rfl; have q2 := b3.at_ (i := 2) rfl; have u2 := b3.free 2; have rb3 := (rb.alloc (.cells #[.int .i64 x] 3)).below ap.below (by omega); have r0 := rb3.at_ (i := 0) rfl; have r1 := rb3.at_ (i := 1) rfl; have r2 := rb3.at_ (i := 2) rfl; have v0 := rb3.free 0; have v1 := rb3.free 1; have v2 := rb3.free 2)
      refine bodyPost_ret (v := .tuple #[.agg #[.int .i64 K, .int .i64 (S + 1), .slice A3 (n + 1) c3], .int .i64 0]) (by simp [results, Tryz.results187, go_sem, r0, r1, r2, ng1, ng2]) rfl ⟨_, _, _, rfl, ?_, by repeat' (first | assumption | with_reducible exact Below.refl _ _ | with_reducible apply Below.drew | with_reducible apply below_drewN | with_reducible apply below_alloc | with_reducible refine below_set ?_ ?_ _ | (simp only [World.size_alloc, World.heap_drewN]; omega) | (simp; omega))⟩
      rw [HC.out, ints_append]
      exact (((((ap.own.far (p := ⟨g, 2, none⟩) (ap.own.apart b3 (by decide)) _).low (by simp; omega) _).low (by simp; omega) _).low (by simp; omega) _).mono hw1.size)
    · by_cases hdK : d < K
      · obtain ⟨dn, rfl⟩ := Int.eq_ofNat_of_zero_le h3
        have K5' := K5.out
        have hdn : dn < n := by omega
        obtain ⟨g', rfl, hg1, hg2⟩ := hown.addr (by omega)
        have hgg := hapart g' rfl
        have HC := hide (show came K S xs x dn = xs.set dn x by simp [came, hSK, hdK])
        have hgg' := Ne.symm hgg
        obtain ⟨y, hy⟩ : ∃ y, xs[dn]? = some y := ⟨_, List.getElem?_eq_getElem (by rw [h.ilen]; omega)⟩
        have cy := hown.cell (ints_at hy)
        have fy := hown.free dn
        clear K5' hy
        go_wp2
        refine bodyPost_ret (v := .tuple #[.agg #[.int .i64 K, .int .i64 (S + 1), .slice (some ⟨g', 0, none⟩) n c'], .int .i64 0]) (by simp [results, Tryz.results187, go_sem, r0, r1, r2, ng1, ng2]) rfl ⟨_, _, _, rfl, ?_, by repeat' (first | assumption | with_reducible exact Below.refl _ _ | with_reducible apply Below.drew | with_reducible apply below_drewN | with_reducible apply below_alloc | with_reducible refine below_set ?_ ?_ _ | (simp only [World.size_alloc, World.heap_drewN]; omega) | (simp; omega))⟩
        rw [HC.out, ints_set]
        exact (((((hown.set dn (.int .i64 x)).low (by simp; omega) _).low (by simp; omega) _).low (by simp; omega) _).mono hw1.size)
      · have HC := hide (show came K S xs x d = xs by simp [came, hSK, hdK])
        go_wp2
        refine bodyPost_ret (v := .tuple #[.agg #[.int .i64 K, .int .i64 (S + 1), .slice A' n c'], .int .i64 0]) (by simp [results, Tryz.results187, go_sem, r0, r1, r2, ng1, ng2]) rfl ⟨_, _, _, rfl, ?_, by repeat' (first | assumption | with_reducible exact Below.refl _ _ | with_reducible apply Below.drew | with_reducible apply below_drewN | with_reducible apply below_alloc | with_reducible refine below_set ?_ ?_ _ | (simp only [World.size_alloc, World.heap_drewN]; omega) | (simp; omega))⟩
        rw [HC.out]
        exact ((((hown.low (by simp; omega) _).low (by simp; omega) _).low (by simp; omega) _).mono hw1.size)
end Go.Proofs.YtjpbjghdplbdcaaGreatDoor
end
