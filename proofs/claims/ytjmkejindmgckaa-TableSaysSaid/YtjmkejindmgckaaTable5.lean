/-
  table.Ask, table.Join: the walks. Conditions: the rows read as lists of numbers.
-/
import Derived.Test.YtjmkejindmgckaaTable4
namespace Go.Proofs.Ytjmkejindmgckaa
open Go.RowKit

/-- What is wrong with two tables that are to be joined. -/
def tjErr (W : Int) (n : Nat) (zss : List (List Int)) (W2 : Int) (n2 : Nat) (yss : List (List Int)) : Int :=
  if ¬ tabErr W n zss = 0 then tabErr W n zss else if ¬ tabErr W2 n2 yss = 0 then tabErr W2 n2 yss else if W ≠ W2 ∨ n ≠ n2 then 7 else 0
/-- One table's counts. -/
def atOf (yss : List (List Int)) (i k : Nat) : Int := (yss.getD i []).getD k 0
theorem rows_uniform {w : World} {A : Option Addr} {n c : Nat} {os : List Row} (h : Ss w A n c os) {m : Nat} (hk : TabOk (m : Int) n (rows os)) : ∀ o ∈ os, o.2.1 = m := fun o ho => by
  obtain ⟨i, hi⟩ := List.getElem?_of_mem ho
  have h1 := hk.row i _ (rows_at hi)
  rw [(h.r o ho).ilen] at h1
  omega
section
variable {W W2 : Int} {A A2 : Option Addr} {n c n2 c2 : Nat} {os os2 : List Row} {w : World} {key x : Int}
set_option maxRecDepth 20000 in
set_option maxHeartbeats 1600000 in
theorem task_bad (h : Ss w A n c os) {E : Int} (he : tabErr W n (rows os) = E) (h0 : ¬ E = 0) :
    Calls Try.prog 40 #[.agg #[.int .i64 W, .slice A n c], .int .i64 key] w fun e w' => e = .returned (.tuple #[.int .i64 0, .int .i64 E]) ∧ Below w.heap.size w w' := by
  have HE := hide he
  have t1 : (E != 0) = true := by simpa using h0
  clear he h0
  go_enter Try.func40, Try.ntmps40
  go_wp2_with fail
  refine (tcheck_is (h.on (by repeat' (first | assumption | with_reducible exact Below.refl _ _ | with_reducible apply Below.drew | with_reducible apply below_drewN | with_reducible apply below_alloc | with_reducible refine below_set ?_ ?_ _ | (simp only [World.size_alloc, World.heap_drewN]; omega) | (simp; omega)))) HE.out).mono ?_
  rintro e w1 ⟨rfl, hb1⟩
  have k1 : Below w.heap.size w w1 := below_on (by repeat' (first | assumption | with_reducible exact Below.refl _ _ | with_reducible apply Below.drew | with_reducible apply below_drewN | with_reducible apply below_alloc | with_reducible refine below_set ?_ ?_ _ | (simp only [World.size_alloc, World.heap_drewN]; omega) | (simp; omega))) hb1
  go_wp2_with fail
  go_ret2
  exact ⟨rfl, k1⟩
set_option maxRecDepth 20000 in
set_option maxHeartbeats 1600000 in
theorem task_ok {m : Nat} (h : Ss w A n c os) (he : tabErr (m : Int) n (rows os) = 0) :
    Calls Try.prog 40 #[.agg #[.int .i64 (m : Int), .slice A n c], .int .i64 key] w fun e w' => e = .returned (.tuple #[.int .i64 (leastTo (plcI m key) (rows os) n), .int .i64 0]) ∧ Below w.heap.size w w' := by
  have HE := hide he
  have HK := hide (tabOk_rows h he)
  have m1 : 1 ≤ m := by have := HK.out.w1; omega
  have m2 : m ≤ 32 := by have := HK.out.w2; omega
  have n4 := HK.out.n2
  obtain ⟨p, hp⟩ : ∃ p, plcI m key = p := ⟨_, rfl⟩
  have HPL := hide (show ∀ i, i < 1000 → p i < m from fun i hi => by rw [← hp]; exact plcI_lt m1 key i)
  have HCP := hide (show ∀ (w : World) (i : Nat), i < 1000 → Calls Try.prog 80 #[.agg #[.int .i64 (m : Int), .slice A n c], .int .i64 (i : Int), .int .i64 key] w fun e w' => e = .returned (.int .i64 (p i)) ∧ Below w.heap.size w w' from fun w i hi => by rw [← hp]; exact place_any m1 m2 hi)
  rw [hp]
  obtain ⟨zss, hzss⟩ : ∃ zss, rows os = zss := ⟨_, rfl⟩
  rw [hzss] at HK ⊢
  have HZ := hide hzss
  clear he hp hzss
  have b0 := (Blk.new w 65 #[.int .i64 (m : Int), .slice A n c])
  have HB0 := hide b0
  clear b0
  go_enter Try.func40, Try.ntmps40
  go_wp2_with fail
  refine (tcheck_is (h.on (by repeat' (first | assumption | with_reducible exact Below.refl _ _ | with_reducible apply Below.drew | with_reducible apply below_drewN | with_reducible apply below_alloc | with_reducible refine below_set ?_ ?_ _ | (simp only [World.size_alloc, World.heap_drewN]; omega) | (simp; omega)))) HE.out).mono ?_
  rintro e w1 ⟨rfl, hb1⟩
  have k1 : Below w.heap.size w w1 := below_on (by repeat' (first | assumption | with_reducible exact Below.refl _ _ | with_reducible apply Below.drew | with_reducible apply below_drewN | with_reducible apply below_alloc | with_reducible refine below_set ?_ ?_ _ | (simp only [World.size_alloc, World.heap_drewN]; omega) | (simp; omega))) hb1
  have bt1 := HB0.out.below hb1 HB0.out.lt
  have q0 : w1.cell? ⟨w.heap.size, 0, none⟩ = some (.int .i64 (m : Int)) := bt1.at_ (i := 0) rfl
  have q1 : w1.cell? ⟨w.heap.size, 1, none⟩ = some (.slice A n c) := bt1.at_ (i := 1) rfl
  have HBT1 := hide bt1
  clear bt1 hb1 HB0
  go_wp2_with fail
  go_loopw [7, 18] (fun v i wr => ∃ (k : Nat), k ≤ n ∧ i = .int .i64 k ∧ v = .int .i64 (leastTo p zss k) ∧ Blk wr w.heap.size 65 #[.int .i64 (m : Int), .slice A n c] ∧ Below w.heap.size w wr) (fun _ i _ => n - (intOf i).toNat)
  case atStart => exact ⟨0, Nat.zero_le _, rfl, rfl, HBT1.out, k1⟩
  case round =>
    clear q0 q1 HBT1 k1
    obtain ⟨k, hk, rfl, rfl, bt, kr⟩ := hrel
    have HBT := hide bt
    by_cases hlt : k < n
    · obtain ⟨ad, ⟨Ar, nr, cr, zs⟩, rfl, hbk, ho, hc, hs⟩ := (h.on kr).cell hlt
      dsimp only at hc hs
      have hz0 := rows_at ho
      rw [HZ.out] at hz0
      dsimp only at hz0
      have hnr : (zs.length : Int) = m := HK.out.row k zs hz0
      have hnr2 : nr = m := by have := hs.ilen; omega
      subst hnr2
      have hpk : p k < nr := HPL.out k (by omega)
      have HNX := hide (show ∀ y, zs[p k]? = some y → leastTo p zss (k + 1) = if y < leastTo p zss k then y else leastTo p zss k from fun y hy => leastTo_next hz0 hy)
      have HCPK := hide (fun w => HCP.out w k (by omega))
      obtain ⟨pk, hpe⟩ : ∃ pk, p k = pk := ⟨_, rfl⟩
      rw [hpe] at hpk HNX HCPK
      obtain ⟨L, hL⟩ : ∃ L, leastTo p zss k = L := ⟨_, rfl⟩
      rw [hL] at HNX ⊢
      clear hz0 hnr ho hpe hL
      have q0 : wr.cell? ⟨w.heap.size, 0, none⟩ = some (.int .i64 (nr : Int)) := bt.at_ (i := 0) rfl
      have q1 : wr.cell? ⟨w.heap.size, 1, none⟩ = some (.slice (some ad) n c) := bt.at_ (i := 1) rfl
      clear bt
      go_wp2_with fail
      refine (HCPK.out _).mono ?_
      rintro e w5 ⟨rfl, hb5⟩
      have k5 := below_on kr hb5
      have bt5 := HBT.out.below hb5 HBT.out.lt
      obtain ⟨ad2, y, rfl, hbk2, hy, hcy⟩ := (hs.on hb5).icell hpk
      have HN := hide (HNX.out y hy)
      have HBT5 := hide bt5
      clear hy bt5 q0 q1
      go_wp2_with fail
      all_goals
        go_roundw
        case rel => exact ⟨k + 1, by omega, by go_num, by rw [HN.out], HBT5.out, k5⟩
        case measure => simp [intOf]; omega
    · obtain rfl : k = n := by omega
      go_wp2_with fail
      go_ret2
      exact ⟨rfl, kr⟩
theorem tjErr_zero {zss yss : List (List Int)} {m m2 : Nat} (h : tjErr (m : Int) n zss (m2 : Int) n2 yss = 0) : tabErr (m : Int) n zss = 0 ∧ tabErr (m2 : Int) n2 yss = 0 ∧ m = m2 ∧ n = n2 := by
  unfold tjErr at h
  by_cases h1 : tabErr (m : Int) n zss = 0
  · rw [if_neg (by simpa using h1)] at h
    by_cases h2 : tabErr (m2 : Int) n2 yss = 0
    · rw [if_neg (by simpa using h2)] at h
      by_cases h3 : (m : Int) ≠ m2 ∨ n ≠ n2
      · rw [if_pos h3] at h; omega
      · exact ⟨h1, h2, by omega, by omega⟩
    · rw [if_pos (by simpa using h2)] at h; exact absurd h h2
  · rw [if_pos (by simpa using h1)] at h; exact absurd h h1
set_option maxRecDepth 20000 in
set_option maxHeartbeats 3200000 in
theorem tjoin_bad (h : Ss w A n c os) (h2 : Ss w A2 n2 c2 os2) {E : Int} (he : tjErr W n (rows os) W2 n2 (rows os2) = E) (h0 : ¬ E = 0) :
    Calls Try.prog 41 #[.agg #[.int .i64 W, .slice A n c], .agg #[.int .i64 W2, .slice A2 n2 c2]] w (TabRet w 0 [] E) := by
  have hm1 := h.s.len_max
  have hm2 := h2.s.len_max
  have b2 := (Blk.new ((w.alloc (.cells #[.int .i64 W, .slice A n c] 65)).alloc (.cells #[.int .i64 W2, .slice A2 n2 c2] 65)) 65 #[.int .i64 0, .slice none 0 0])
  rw [World.size_alloc, World.size_alloc] at b2
  have b1 := (Blk.new (w.alloc (.cells #[.int .i64 W, .slice A n c] 65)) 65 #[.int .i64 W2, .slice A2 n2 c2]).alloc (.cells #[.int .i64 0, .slice none 0 0] 65)
  rw [World.size_alloc] at b1
  have b0 := ((Blk.new w 65 #[.int .i64 W, .slice A n c]).alloc (.cells #[.int .i64 W2, .slice A2 n2 c2] 65)).alloc (.cells #[.int .i64 0, .slice none 0 0] 65)
  have HB2 := hide b2
  have HB1 := hide b1
  have HB0 := hide b0
  clear b2 b1 b0
  by_cases e1 : tabErr W n (rows os) = 0
  · by_cases e2 : tabErr W2 n2 (rows os2) = 0
    · have e3 : W ≠ W2 ∨ n ≠ n2 := by
        unfold tjErr at he
        rw [if_neg (by simpa using e1), if_neg (by simpa using e2)] at he
        by_cases e3 : W ≠ W2 ∨ n ≠ n2
        · exact e3
        · rw [if_neg e3] at he; exact absurd he.symm h0
      have hE : (7 : Int) = E := by rw [← he]; unfold tjErr; rw [if_neg (by simpa using e1), if_neg (by simpa using e2), if_pos e3]
      subst hE
      have H1 := hide e1
      have H2 := hide e2
      have key : (W != W2) = true ∨ ((W != W2) = false ∧ ((n : Int) != (n2 : Int)) = true) := by
        by_cases s : W = W2
        · right
          refine ⟨by simpa using s, ?_⟩
          rcases e3 with e3 | e3
          · exact absurd s e3
          · simp; omega
        · left; simpa using s
      clear he h0 e1 e2 e3
      rcases key with t1 | ⟨t1, t2⟩
      all_goals
        go_enter Try.func41, Try.ntmps41
        go_wp2_with fail
        refine (tcheck_is (h.on (by repeat' (first | assumption | with_reducible exact Below.refl _ _ | with_reducible apply Below.drew | with_reducible apply below_drewN | with_reducible apply below_alloc | with_reducible refine below_set ?_ ?_ _ | (simp only [World.size_alloc, World.heap_drewN]; omega) | (simp; omega)))) H1.out).mono ?_
        rintro e w1 ⟨rfl, hb1⟩
        have k1 : Below w.heap.size w w1 := below_on (by repeat' (first | assumption | with_reducible exact Below.refl _ _ | with_reducible apply Below.drew | with_reducible apply below_drewN | with_reducible apply below_alloc | with_reducible refine below_set ?_ ?_ _ | (simp only [World.size_alloc, World.heap_drewN]; omega) | (simp; omega))) hb1
        have bg1 := HB1.out.below hb1 HB1.out.lt
        have g0 : w1.cell? ⟨w.heap.size + 1, 0, none⟩ = some (.int .i64 W2) := bg1.at_ (i := 0) rfl
        have g1 : w1.cell? ⟨w.heap.size + 1, 1, none⟩ = some (.slice A2 n2 c2) := bg1.at_ (i := 1) rfl
        have z1 := hb1.size
        simp only [World.size_alloc] at z1
        go_wp2_with fail
        refine (tcheck_is (h2.on k1) H2.out).mono ?_
        rintro e w2 ⟨rfl, hb2⟩
        have k2 := below_on k1 hb2
        have bg2 := bg1.below hb2 bg1.lt
        have bt2 := (HB0.out.below hb1 HB0.out.lt).below hb2 (by omega)
        have br2 := (HB2.out.below hb1 HB2.out.lt).below hb2 (by omega)
        have g20 : w2.cell? ⟨w.heap.size + 1, 0, none⟩ = some (.int .i64 W2) := bg2.at_ (i := 0) rfl
        have g21 : w2.cell? ⟨w.heap.size + 1, 1, none⟩ = some (.slice A2 n2 c2) := bg2.at_ (i := 1) rfl
        have q0 : w2.cell? ⟨w.heap.size, 0, none⟩ = some (.int .i64 W) := bt2.at_ (i := 0) rfl
        have q1 : w2.cell? ⟨w.heap.size, 1, none⟩ = some (.slice A n c) := bt2.at_ (i := 1) rfl
        have p0 : w2.cell? ⟨w.heap.size + 1 + 1, 0, none⟩ = some (.int .i64 0) := br2.at_ (i := 0) rfl
        have p1 : w2.cell? ⟨w.heap.size + 1 + 1, 1, none⟩ = some (.slice none 0 0) := br2.at_ (i := 1) rfl
        have f0 := br2.free 0
        have f1 := br2.free 1
        have z2 := hb2.size
        go_wp2_with fail
        refine bodyPost_ret (v := .tuple #[.agg #[.int .i64 0, .slice none 0 0], .int .i64 7]) (by simp [results, Try.results41, go_sem, p0, p1]) rfl ⟨none, 0, 0, [], rfl, Ss.none _, rfl, by repeat' (first | assumption | with_reducible exact Below.refl _ _ | with_reducible apply Below.drew | with_reducible apply below_drewN | with_reducible apply below_alloc | with_reducible refine below_set ?_ ?_ _ | (simp only [World.size_alloc, World.heap_drewN]; omega) | (simp; omega))⟩
    · have hE : tabErr W2 n2 (rows os2) = E := by rw [← he]; unfold tjErr; rw [if_neg (by simpa using e1), if_pos e2]
      have H1 := hide e1
      have H2 := hide hE
      have t1 : (E != 0) = true := by simpa using h0
      clear he h0 e1 e2 hE
      go_enter Try.func41, Try.ntmps41
      go_wp2_with fail
      refine (tcheck_is (h.on (by repeat' (first | assumption | with_reducible exact Below.refl _ _ | with_reducible apply Below.drew | with_reducible apply below_drewN | with_reducible apply below_alloc | with_reducible refine below_set ?_ ?_ _ | (simp only [World.size_alloc, World.heap_drewN]; omega) | (simp; omega)))) H1.out).mono ?_
      rintro e w1 ⟨rfl, hb1⟩
      have k1 : Below w.heap.size w w1 := below_on (by repeat' (first | assumption | with_reducible exact Below.refl _ _ | with_reducible apply Below.drew | with_reducible apply below_drewN | with_reducible apply below_alloc | with_reducible refine below_set ?_ ?_ _ | (simp only [World.size_alloc, World.heap_drewN]; omega) | (simp; omega))) hb1
      have bg1 := HB1.out.below hb1 HB1.out.lt
      have g0 : w1.cell? ⟨w.heap.size + 1, 0, none⟩ = some (.int .i64 W2) := bg1.at_ (i := 0) rfl
      have g1 : w1.cell? ⟨w.heap.size + 1, 1, none⟩ = some (.slice A2 n2 c2) := bg1.at_ (i := 1) rfl
      have z1 := hb1.size
      simp only [World.size_alloc] at z1
      go_wp2_with fail
      refine (tcheck_is (h2.on k1) H2.out).mono ?_
      rintro e w2 ⟨rfl, hb2⟩
      have k2 := below_on k1 hb2
      have br2 := (HB2.out.below hb1 HB2.out.lt).below hb2 (by omega)
      have p0 : w2.cell? ⟨w.heap.size + 1 + 1, 0, none⟩ = some (.int .i64 0) := br2.at_ (i := 0) rfl
      have p1 : w2.cell? ⟨w.heap.size + 1 + 1, 1, none⟩ = some (.slice none 0 0) := br2.at_ (i := 1) rfl
      have f0 := br2.free 0
      have f1 := br2.free 1
      have z2 := hb2.size
      go_wp2_with fail
      refine bodyPost_ret (v := .tuple #[.agg #[.int .i64 0, .slice none 0 0], .int .i64 E]) (by simp [results, Try.results41, go_sem, p0, p1]) rfl ⟨none, 0, 0, [], rfl, Ss.none _, rfl, by repeat' (first | assumption | with_reducible exact Below.refl _ _ | with_reducible apply Below.drew | with_reducible apply below_drewN | with_reducible apply below_alloc | with_reducible refine below_set ?_ ?_ _ | (simp only [World.size_alloc, World.heap_drewN]; omega) | (simp; omega))⟩
  · have hE : tabErr W n (rows os) = E := by rw [← he]; unfold tjErr; rw [if_pos e1]
    have H1 := hide hE
    have t1 : (E != 0) = true := by simpa using h0
    clear he h0 e1 hE
    go_enter Try.func41, Try.ntmps41
    go_wp2_with fail
    refine (tcheck_is (h.on (by repeat' (first | assumption | with_reducible exact Below.refl _ _ | with_reducible apply Below.drew | with_reducible apply below_drewN | with_reducible apply below_alloc | with_reducible refine below_set ?_ ?_ _ | (simp only [World.size_alloc, World.heap_drewN]; omega) | (simp; omega)))) H1.out).mono ?_
    rintro e w1 ⟨rfl, hb1⟩
    have k1 : Below w.heap.size w w1 := below_on (by repeat' (first | assumption | with_reducible exact Below.refl _ _ | with_reducible apply Below.drew | with_reducible apply below_drewN | with_reducible apply below_alloc | with_reducible refine below_set ?_ ?_ _ | (simp only [World.size_alloc, World.heap_drewN]; omega) | (simp; omega))) hb1
    have br1 := HB2.out.below hb1 HB2.out.lt
    have p0 : w1.cell? ⟨w.heap.size + 1 + 1, 0, none⟩ = some (.int .i64 0) := br1.at_ (i := 0) rfl
    have p1 : w1.cell? ⟨w.heap.size + 1 + 1, 1, none⟩ = some (.slice none 0 0) := br1.at_ (i := 1) rfl
    have f0 := br1.free 0
    have f1 := br1.free 1
    have z1 := hb1.size
    simp only [World.size_alloc] at z1
    go_wp2_with fail
    refine bodyPost_ret (v := .tuple #[.agg #[.int .i64 0, .slice none 0 0], .int .i64 E]) (by simp [results, Try.results41, go_sem, p0, p1]) rfl ⟨none, 0, 0, [], rfl, Ss.none _, rfl, by repeat' (first | assumption | with_reducible exact Below.refl _ _ | with_reducible apply Below.drew | with_reducible apply below_drewN | with_reducible apply below_alloc | with_reducible refine below_set ?_ ?_ _ | (simp only [World.size_alloc, World.heap_drewN]; omega) | (simp; omega))⟩
end
end Go.Proofs.Ytjmkejindmgckaa
