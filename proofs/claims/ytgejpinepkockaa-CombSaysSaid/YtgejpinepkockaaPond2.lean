/-
  pond.Put where it may be: the walk. Conditions: the pond and the draw may be, the items read as a list of numbers.
-/
import Derived.Test.YtgejpinepkockaaPond
import Derived.Deep.RegionHeld3
import Derived.Deep.DeepCutAuto
namespace Go.Proofs.Ytgejpinepkockaa
open Go.RowKit

theorem pond_ok {K S n : Int} (h : pondErr K S n = 0) : 1 ≤ K ∧ K ≤ 16 ∧ 0 ≤ S ∧ S ≤ 1000000000000 ∧ n = min K S := by
  unfold pondErr at h
  split at h
  · simp at h
  · split at h
    · simp at h
    · omega
theorem put_ok {K S n d : Int} (h : putErr K S n d = 0) : pondErr K S n = 0 ∧ S ≠ 1000000000000 ∧ 0 ≤ d ∧ d ≤ S := by
  unfold putErr at h
  split at h
  · rename_i h1; exact absurd h h1
  · rename_i h1
    split at h
    · simp at h
    · split at h
      · simp at h
      · exact ⟨by omega, by assumption, by omega, by omega⟩

/-- The pond that comes back. -/
def PondRet (w : World) (K S : Int) (zs : List Int) (e : Ending) (w' : World) : Prop :=
  ∃ A n c, e = .returned (.tuple #[.agg #[.int .i64 K, .int .i64 S, .slice A n c], .int .i64 0]) ∧ Own w' w.heap.size 3 1 A n c (ints zs) ∧ Below w.heap.size w w'

set_option maxRecDepth 20000 in
set_option maxHeartbeats 1600000 in
theorem pondPut_ok (K S : Int) (A : Option Addr) (n c : Nat) (xs : List Int) (x d : Int) (w : World) (h : Si w A n c xs) (he : putErr K S n d = 0) :
    Calls Try.prog 19 #[.agg #[.int .i64 K, .int .i64 S, .slice A n c], .int .i64 x, .int .i64 d] w (PondRet w K (S + 1) (came K S xs x d)) := by
  obtain ⟨h1, h2, h3, h4⟩ := put_ok he
  obtain ⟨k1, k2, k3, k4, k5⟩ := pond_ok h1
  have t1 : (S == 1000000000000) = false := by simp [h2]
  have hn16 : n ≤ 16 := by omega
  have hm := h.len_max
  have H1 := hide h1
  have K5 := hide k5
  have s1 : IntKind.i64.wrap (S + 1) = S + 1 := IntWalk.i64_in _ (by omega)
  clear he h1 h2 k5
  go_enter Try.func19, Try.ntmps19
  go_wp2_with fail
  have cc := pondCheck_any K S A n c hm ((w.alloc (.cells #[.int .i64 K, .int .i64 S, .slice A n c] 32)).alloc (.cells #[.int .i64 0, .int .i64 0, .slice none 0 0] 32))
  rw [H1.out] at cc
  refine cc.mono ?_
  clear cc
  rintro e w1 ⟨rfl, hb1⟩
  have hw1 : Below w.heap.size w w1 := below_on (by repeat' (first | assumption | with_reducible exact Below.refl _ _ | with_reducible apply Below.drew | with_reducible apply below_drewN | with_reducible apply below_alloc | with_reducible refine below_set ?_ ?_ _ | (simp only [World.size_alloc, World.heap_drewN]; omega) | (simp; omega))) hb1
  obtain ⟨hc, hf⟩ := bcell hb1
  have hz := hb1.size
  simp only [World.size_alloc] at hz
  have f0 : w1.cell? ⟨w.heap.size, 0, none⟩ = some (.int .i64 K) := by rw [hc _ _ (by simp; omega)]; go_simp
  have f1 : w1.cell? ⟨w.heap.size, 1, none⟩ = some (.int .i64 S) := by rw [hc _ _ (by simp; omega)]; go_simp
  have f2 : w1.cell? ⟨w.heap.size, 2, none⟩ = some (.slice A n c) := by rw [hc _ _ (by simp; omega)]; go_simp
  go_upto_region 8 with fail
  go_cut [9] (fun s9 wx => ∃ g A' c', s9 = .pointer (some ⟨g, 0, none⟩) ∧ Blk wx g 32 #[.int .i64 K, .int .i64 (S + 1), .slice A' n c'] ∧ Own wx w1.heap.size 3 1 A' n c' (ints xs) ∧ w1.heap.size ≤ g ∧ Below w1.heap.size w1 wx)
  case first =>
    go_region_held3 (fun w' => Below w1.heap.size w1 w' ∧ w'.cell? ⟨w.heap.size, 0, none⟩ = some (.int .i64 K) ∧ w'.cell? ⟨w.heap.size, 1, none⟩ = some (.int .i64 S) ∧ w'.cell? ⟨w.heap.size, 2, none⟩ = some (.slice A n c)) ((refine keep3 (by omega) f0 f1 f2 ?_; repeat' (first | assumption | with_reducible exact Below.refl _ _ | with_reducible apply Below.drew | with_reducible apply below_drewN | with_reducible apply below_alloc | with_reducible refine below_set ?_ ?_ _ | (simp only [World.size_alloc, World.heap_drewN]; omega) | (simp; omega))))
      (first | (go_at_call 81; refine (clone_ints A n c xs _ (h.upd (by repeat' (first | assumption | with_reducible exact Below.refl _ _ | with_reducible apply Below.drew | with_reducible apply below_drewN | with_reducible apply below_alloc | with_reducible refine below_set ?_ ?_ _ | (simp only [World.size_alloc, World.heap_drewN]; omega) | (simp; omega))) (Nat.le_refl _) ?_) (by omega)).mono ?_; (simp; omega); rintro e w2 ⟨v, rfl, hb2, A', c', rfl, hown⟩; have hw2 : Below w1.heap.size w1 w2 := below_on (by repeat' (first | assumption | with_reducible exact Below.refl _ _ | with_reducible apply Below.drew | with_reducible apply below_drewN | with_reducible apply below_alloc | with_reducible refine below_set ?_ ?_ _ | (simp only [World.size_alloc, World.heap_drewN]; omega) | (simp; omega))) hb2; have hz2 := hw2.size; obtain ⟨hc2, hf2⟩ := bcell hb2))
    all_goals go_wp2_with fail
    · go_meet
      refine ⟨w2.heap.size, A', c', rfl, ?_, ?_, hz2, ?_⟩
      · exact Blk.new _ _ _
      · exact (hown.alloc _).mono (by simp)
      · repeat' (first | assumption | with_reducible exact Below.refl _ _ | with_reducible apply Below.drew | with_reducible apply below_drewN | with_reducible apply below_alloc | with_reducible refine below_set ?_ ?_ _ | (simp only [World.size_alloc, World.heap_drewN]; omega) | (simp; omega))
    · go_meet
      refine ⟨w1.heap.size, A', c', rfl, ?_, ?_, Nat.le_refl _, by repeat' (first | assumption | with_reducible exact Below.refl _ _ | with_reducible apply Below.drew | with_reducible apply below_drewN | with_reducible apply below_alloc | with_reducible refine below_set ?_ ?_ _ | (simp only [World.size_alloc, World.heap_drewN]; omega) | (simp; omega))⟩
      · have hb := ((((Blk.new w1 32 #[.int .i64 0, .int .i64 0, .slice none 0 0]).drew.below hb2 (by simp)).set 0 (.int .i64 K)).set 1 (.int .i64 (S + 1))).set 2 (.slice A' n c')
        simpa using hb
      · exact (((hown.low (by simp) _).low (by simp) _).low (by simp) _).mono (by simp)
  case rest =>
    obtain ⟨g, A', c', rfl, hblk, hown, hg, hbc⟩ := hcut
    have hwc : Below w.heap.size w wc := below_on hw1 hbc
    have hzc := hbc.size
    have pb0 : Blk ((w.alloc (.cells #[.int .i64 K, .int .i64 S, .slice A n c] 32)).alloc (.cells #[.int .i64 0, .int .i64 0, .slice none 0 0] 32)) w.heap.size 32 #[.int .i64 K, .int .i64 S, .slice A n c] := (Blk.new w _ _).alloc _
    have rb0 : Blk ((w.alloc (.cells #[.int .i64 K, .int .i64 S, .slice A n c] 32)).alloc (.cells #[.int .i64 0, .int .i64 0, .slice none 0 0] 32)) (w.heap.size + 1) 32 #[.int .i64 0, .int .i64 0, .slice none 0 0] := by simpa using Blk.new (w.alloc (.cells #[.int .i64 K, .int .i64 S, .slice A n c] 32)) 32 #[.int .i64 0, .int .i64 0, .slice none 0 0]
    have pb := (pb0.below hb1 pb0.lt).below hbc (pb0.below hb1 pb0.lt).lt
    have rb := (rb0.below hb1 rb0.lt).below hbc (rb0.below hb1 rb0.lt).lt
    have q0 := hblk.at_ (i := 0) rfl
    have q1 := hblk.at_ (i := 1) rfl
    have q2 := hblk.at_ (i := 2) rfl
    have u2 := hblk.free 2
    clear hc hf f0 f1 f2 pb0 rb0
    have p0 := pb.at_ (i := 0) rfl
    have p1 := pb.at_ (i := 1) rfl
    have r0 := rb.at_ (i := 0) rfl
    have r1 := rb.at_ (i := 1) rfl
    have r2 := rb.at_ (i := 2) rfl
    have v0 := rb.free 0
    have v1 := rb.free 1
    have v2 := rb.free 2
    have ng1 : ¬ w.heap.size + 1 = g := by omega
    have ng2 : ¬ g = w.heap.size + 1 := by omega
    have hapart := hown.apart hblk (by decide)
    have na := hown.apart_blk hblk (by decide)
    by_cases hSK : S < K
    · have HC := hide (show came K S xs x d = xs ++ [x] by simp [came, hSK])
      go_wp2_with (at_builtin; refine wpList_append_sl T_int rfl _ _ rfl (by rfl) (by rfl) (hown.alloc _) (Sl.new wc _ 1 1 [.int .i64 x] (by simp [maxLen]) rfl) (ints_one [x]) (by simp only [maxLen]; omega) (by omega) (by simp; omega) ?_; intro A3 c3 w3 ap; have hw3 : Below w.heap.size w w3 := (below_alloc hwc _).trans (ap.below.mono hw1.size); have b3 := (hblk.alloc (.cells #[.int .i64 x] 3)).grown ap.grow na; have q0 := b3.at_ (i := 0) rfl; have q1 := b3.at_ (i := 1) rfl; have q2 := b3.at_ (i := 2) rfl; have u2 := b3.free 2; have rb3 := (rb.alloc (.cells #[.int .i64 x] 3)).below ap.below (by omega); have r0 := rb3.at_ (i := 0) rfl; have r1 := rb3.at_ (i := 1) rfl; have r2 := rb3.at_ (i := 2) rfl; have v0 := rb3.free 0; have v1 := rb3.free 1; have v2 := rb3.free 2)
      refine bodyPost_ret (v := .tuple #[.agg #[.int .i64 K, .int .i64 (S + 1), .slice A3 (n + 1) c3], .int .i64 0]) (by simp [results, Try.results19, go_sem, r0, r1, r2, ng1, ng2]) rfl ⟨_, _, _, rfl, ?_, by repeat' (first | assumption | with_reducible exact Below.refl _ _ | with_reducible apply Below.drew | with_reducible apply below_drewN | with_reducible apply below_alloc | with_reducible refine below_set ?_ ?_ _ | (simp only [World.size_alloc, World.heap_drewN]; omega) | (simp; omega))⟩
      rw [HC.out, ints_append]
      exact (((((ap.own.far (p := ⟨g, 2, none⟩) (ap.own.apart b3 (by decide)) _).low (by simp; omega) _).low (by simp; omega) _).low (by simp; omega) _).mono hw1.size)
    · by_cases hdK : d < K
      · obtain ⟨dn, rfl⟩ := Int.eq_ofNat_of_zero_le h3
        have K5' := K5.out
        have hdn : dn < n := by omega
        obtain ⟨g', rfl, hg1, hg2⟩ := hown.addr (by omega)
        have hgg := hapart g' rfl
        have HC := hide (show came K S xs x dn = xs.set dn x by simp [came, hSK, hdK])
        have hgg' := Ne.symm hgg
        obtain ⟨y, hy⟩ : ∃ y, xs[dn]? = some y := ⟨_, List.getElem?_eq_getElem (by rw [h.ilen]; omega)⟩
        have cy := hown.cell (ints_at hy)
        have fy := hown.free dn
        clear K5' hy
        go_wp2
        refine bodyPost_ret (v := .tuple #[.agg #[.int .i64 K, .int .i64 (S + 1), .slice (some ⟨g', 0, none⟩) n c'], .int .i64 0]) (by simp [results, Try.results19, go_sem, r0, r1, r2, ng1, ng2]) rfl ⟨_, _, _, rfl, ?_, by repeat' (first | assumption | with_reducible exact Below.refl _ _ | with_reducible apply Below.drew | with_reducible apply below_drewN | with_reducible apply below_alloc | with_reducible refine below_set ?_ ?_ _ | (simp only [World.size_alloc, World.heap_drewN]; omega) | (simp; omega))⟩
        rw [HC.out, ints_set]
        exact (((((hown.set dn (.int .i64 x)).low (by simp; omega) _).low (by simp; omega) _).low (by simp; omega) _).mono hw1.size)
      · have HC := hide (show came K S xs x d = xs by simp [came, hSK, hdK])
        go_wp2
        refine bodyPost_ret (v := .tuple #[.agg #[.int .i64 K, .int .i64 (S + 1), .slice A' n c'], .int .i64 0]) (by simp [results, Try.results19, go_sem, r0, r1, r2, ng1, ng2]) rfl ⟨_, _, _, rfl, ?_, by repeat' (first | assumption | with_reducible exact Below.refl _ _ | with_reducible apply Below.drew | with_reducible apply below_drewN | with_reducible apply below_alloc | with_reducible refine below_set ?_ ?_ _ | (simp only [World.size_alloc, World.heap_drewN]; omega) | (simp; omega))⟩
        rw [HC.out]
        exact ((((hown.low (by simp; omega) _).low (by simp; omega) _).low (by simp; omega) _).mono hw1.size)
end Go.Proofs.Ytgejpinepkockaa
