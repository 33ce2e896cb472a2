/-
  table.Put: the walk. Conditions: the rows read as lists of numbers.
-/
import Derived.Test.YtjmkejindmgckaaTable3
namespace Go.Proofs.Ytjmkejindmgckaa
open Go.RowKit

def TabRet (w : World) (W : Int) (zss : List (List Int)) (E : Int) (e : Ending) (w' : World) : Prop :=
  ∃ A n c os, e = .returned (.tuple #[.agg #[.int .i64 W, .slice A n c], .int .i64 E]) ∧ Ss w' A n c os ∧ rows os = zss ∧ Below w.heap.size w w'
theorem Ss.none (w : World) : Ss w none 0 0 [] := ⟨Sl.nil _ _ _, fun o h => by simp at h⟩
theorem rows_len {os : List Row} : (rows os).length = os.length := by simp [rows]
theorem rows_set (os : List Row) (k : Nat) (o : Row) : rows (os.set k o) = (rows os).set k o.2.2.2 := by simp [rows, List.map_set]
theorem tabOk_rows {W : Int} {w : World} {A : Option Addr} {n c : Nat} {os : List Row} (h : Ss w A n c os) (he : tabErr W n (rows os) = 0) : TabOk W n (rows os) := tabOk_of (by rw [rows_len, h.len]) he
section
variable {W : Int} {A : Option Addr} {n c : Nat} {os : List Row} {w : World} {key x : Int}
theorem tcheck_is (h : Ss w A n c os) {E : Int} (he : tabErr W n (rows os) = E) :
    Calls Try.prog 43 #[.agg #[.int .i64 W, .slice A n c]] w fun e w' => e = .returned (.int .i64 E) ∧ Below w.heap.size w w' := by
  have k := tcheck_any (W := W) h; rw [he] at k; exact k
set_option maxRecDepth 20000 in
set_option maxHeartbeats 1600000 in
theorem tput_bad (h : Ss w A n c os) {E : Int} (he : tabErr W n (rows os) = E) (h0 : ¬ E = 0) :
    Calls Try.prog 39 #[.agg #[.int .i64 W, .slice A n c], .int .i64 key, .int .i64 x] w (TabRet w 0 [] E) := by
  have HE := hide he
  have t1 : (E != 0) = true := by simpa using h0
  clear he h0
  have b1 := (Blk.new (w.alloc (.cells #[.int .i64 W, .slice A n c] 65)) 65 #[.int .i64 0, .slice none 0 0])
  rw [World.size_alloc] at b1
  have HB1 := hide b1
  clear b1
  go_enter Try.func39, Try.ntmps39
  go_wp2_with fail
  refine (tcheck_is (h.on (by repeat' (first | assumption | with_reducible exact Below.refl _ _ | with_reducible apply Below.drew | with_reducible apply below_drewN | with_reducible apply below_alloc | with_reducible refine below_set ?_ ?_ _ | (simp only [World.size_alloc, World.heap_drewN]; omega) | (simp; omega)))) HE.out).mono ?_
  rintro e w1 ⟨rfl, hb1⟩
  have k1 : Below w.heap.size w w1 := below_on (by repeat' (first | assumption | with_reducible exact Below.refl _ _ | with_reducible apply Below.drew | with_reducible apply below_drewN | with_reducible apply below_alloc | with_reducible refine below_set ?_ ?_ _ | (simp only [World.size_alloc, World.heap_drewN]; omega) | (simp; omega))) hb1
  have z1 := hb1.size
  simp only [World.size_alloc] at z1
  have br := HB1.out.below hb1 HB1.out.lt
  have p0 : w1.cell? ⟨w.heap.size + 1, 0, none⟩ = some (.int .i64 0) := br.at_ (i := 0) rfl
  have p1 : w1.cell? ⟨w.heap.size + 1, 1, none⟩ = some (.slice none 0 0) := br.at_ (i := 1) rfl
  have f0 := br.free 0
  have f1 := br.free 1
  go_wp2_with fail
  refine bodyPost_ret (v := .tuple #[.agg #[.int .i64 0, .slice none 0 0], .int .i64 E]) (by simp [results, Try.results39, go_sem, p0, p1]) rfl ⟨none, 0, 0, [], rfl, Ss.none _, rfl, by repeat' (first | assumption | with_reducible exact Below.refl _ _ | with_reducible apply Below.drew | with_reducible apply below_drewN | with_reducible apply below_alloc | with_reducible refine below_set ?_ ?_ _ | (simp only [World.size_alloc, World.heap_drewN]; omega) | (simp; omega))⟩
set_option maxRecDepth 20000 in
set_option maxHeartbeats 1600000 in
theorem tput_arg (h : Ss w A n c os) (he : tabErr W n (rows os) = 0) (hx : ¬ (0 ≤ x ∧ x ≤ 1000000000000)) :
    Calls Try.prog 39 #[.agg #[.int .i64 W, .slice A n c], .int .i64 key, .int .i64 x] w (TabRet w 0 [] 1) := by
  have HE := hide he
  have kx : x < 0 ∨ (¬ x < 0 ∧ 1000000000000 < x) := by omega
  clear he hx
  have b1 := (Blk.new (w.alloc (.cells #[.int .i64 W, .slice A n c] 65)) 65 #[.int .i64 0, .slice none 0 0])
  rw [World.size_alloc] at b1
  have HB1 := hide b1
  clear b1
  rcases kx with x1 | ⟨x1, x2⟩
  all_goals
    go_enter Try.func39, Try.ntmps39
    go_wp2_with fail
    refine (tcheck_is (h.on (by repeat' (first | assumption | with_reducible exact Below.refl _ _ | with_reducible apply Below.drew | with_reducible apply below_drewN | with_reducible apply below_alloc | with_reducible refine below_set ?_ ?_ _ | (simp only [World.size_alloc, World.heap_drewN]; omega) | (simp; omega)))) HE.out).mono ?_
    rintro e w1 ⟨rfl, hb1⟩
    have k1 : Below w.heap.size w w1 := below_on (by repeat' (first | assumption | with_reducible exact Below.refl _ _ | with_reducible apply Below.drew | with_reducible apply below_drewN | with_reducible apply below_alloc | with_reducible refine below_set ?_ ?_ _ | (simp only [World.size_alloc, World.heap_drewN]; omega) | (simp; omega))) hb1
    have z1 := hb1.size
    simp only [World.size_alloc] at z1
    have br := HB1.out.below hb1 HB1.out.lt
    have p0 : w1.cell? ⟨w.heap.size + 1, 0, none⟩ = some (.int .i64 0) := br.at_ (i := 0) rfl
    have p1 : w1.cell? ⟨w.heap.size + 1, 1, none⟩ = some (.slice none 0 0) := br.at_ (i := 1) rfl
    have f0 := br.free 0
    have f1 := br.free 1
    go_wp2_with fail
    refine bodyPost_ret (v := .tuple #[.agg #[.int .i64 0, .slice none 0 0], .int .i64 1]) (by simp [results, Try.results39, go_sem, p0, p1]) rfl ⟨none, 0, 0, [], rfl, Ss.none _, rfl, by repeat' (first | assumption | with_reducible exact Below.refl _ _ | with_reducible apply Below.drew | with_reducible apply below_drewN | with_reducible apply below_alloc | with_reducible refine below_set ?_ ?_ _ | (simp only [World.size_alloc, World.heap_drewN]; omega) | (simp; omega))⟩
set_option maxRecDepth 100000 in
set_option maxHeartbeats 3200000 in
theorem tput_ok {m : Nat} (h : Ss w A n c os) (he : tabErr (m : Int) n (rows os) = 0) (x0 : 0 ≤ x) (x1 : x ≤ 1000000000000) {b : Bool} (hb : okTab (atPlace (plcI m key) x) (rows os) m n = b) :
    Calls Try.prog 39 #[.agg #[.int .i64 (m : Int), .slice A n c], .int .i64 key, .int .i64 x] w (TabRet w (sumW b m) (sumT b (atPlace (plcI m key) x) (rows os)) (sumE b)) := by
  have HE := hide he
  have HK := hide (tabOk_rows h he)
  have HB := hide hb
  have m1 : 1 ≤ m := by have := HK.out.w1; omega
  have m2 : m ≤ 32 := by have := HK.out.w2; omega
  have n4 := HK.out.n2
  have HRW := hide (show ∀ o ∈ os, o.2.1 = m from fun o ho => by
    obtain ⟨i, hi⟩ := List.getElem?_of_mem ho
    have h1 := HK.out.row i _ (rows_at hi)
    rw [(h.r o ho).ilen] at h1
    omega)
  have HL := hide h.len
  obtain ⟨p, hp⟩ : ∃ p, plcI m key = p := ⟨_, rfl⟩
  have HPL := hide (show ∀ i, i < 1000 → p i < m from fun i hi => by rw [← hp]; exact plcI_lt m1 key i)
  have HCP := hide (show ∀ (w : World) (i : Nat), i < 1000 → Calls Try.prog 80 #[.agg #[.int .i64 (m : Int), .slice A n c], .int .i64 (i : Int), .int .i64 key] w fun e w' => e = .returned (.int .i64 (p i)) ∧ Below w.heap.size w w' from fun w i hi => by rw [← hp]; exact place_any m1 m2 hi)
  rw [hp] at HB ⊢
  obtain ⟨zss, hzss⟩ : ∃ zss, rows os = zss := ⟨_, rfl⟩
  rw [hzss] at HB HK ⊢
  have HZ := hide hzss
  clear he hb hp hzss
  have b1 := (Blk.new (w.alloc (.cells #[.int .i64 (m : Int), .slice A n c] 65)) 65 #[.int .i64 0, .slice none 0 0])
  rw [World.size_alloc] at b1
  have b0 := (Blk.new w 65 #[.int .i64 (m : Int), .slice A n c]).alloc (.cells #[.int .i64 0, .slice none 0 0] 65)
  have HB1 := hide b1
  have HB0 := hide b0
  clear b1 b0
  go_enter Try.func39, Try.ntmps39
  go_wp2_with fail
  refine (tcheck_is (h.on (by repeat' (first | assumption | with_reducible exact Below.refl _ _ | with_reducible apply Below.drew | with_reducible apply below_drewN | with_reducible apply below_alloc | with_reducible refine below_set ?_ ?_ _ | (simp only [World.size_alloc, World.heap_drewN]; omega) | (simp; omega)))) HE.out).mono ?_
  rintro e w1 ⟨rfl, hb1⟩
  have k1 : Below w.heap.size w w1 := below_on (by repeat' (first | assumption | with_reducible exact Below.refl _ _ | with_reducible apply Below.drew | with_reducible apply below_drewN | with_reducible apply below_alloc | with_reducible refine below_set ?_ ?_ _ | (simp only [World.size_alloc, World.heap_drewN]; omega) | (simp; omega))) hb1
  have z1 := hb1.size
  simp only [World.size_alloc] at z1
  have bz1 := HB1.out.below hb1 HB1.out.lt
  have bt1 := HB0.out.below hb1 HB0.out.lt
  have q0 : w1.cell? ⟨w.heap.size, 0, none⟩ = some (.int .i64 (m : Int)) := bt1.at_ (i := 0) rfl
  have q1 : w1.cell? ⟨w.heap.size, 1, none⟩ = some (.slice A n c) := bt1.at_ (i := 1) rfl
  go_wp2_with fail
  refine (copied_any (h.on k1) n4 (fun o ho => by rw [HRW.out o ho]; exact m2)).mono ?_
  rintro e w2 ⟨A2, c2, o2, rfl, ot2, hro2, hb2⟩
  have k2 := below_on k1 hb2
  have z2 := hb2.size
  have bz2 := bz1.below hb2 bz1.lt
  have bt2 := bt1.below hb2 bt1.lt
  rw [HZ.out, ← addTo_zero (atPlace p x) zss] at hro2
  have b9 := (Blk.new w2 65 #[.int .i64 (m : Int), .slice A2 n c2])
  have ot3 := ot2.alloc (.cells #[.int .i64 (m : Int), .slice A2 n c2] 65)
  have bz3 := bz2.alloc (.cells #[.int .i64 (m : Int), .slice A2 n c2] 65)
  have bt3 := bt2.alloc (.cells #[.int .i64 (m : Int), .slice A2 n c2] 65)
  have k3 := below_alloc k2 (.cells #[.int .i64 (m : Int), .slice A2 n c2] 65)
  have HB9 := hide b9
  have HOT := hide ot3
  have HBZ := hide bz3
  have HBT := hide bt3
  have HK3 := hide k3
  have HRO := hide hro2
  clear q0 q1 b9 ot3 ot2 bz3 bt3 bz2 bt2 bz1 bt1 k3 hro2 hb2 hb1
  go_wp2_with fail
  obtain ⟨w3, hw3⟩ : ∃ w3, w2.alloc (.cells #[.int .i64 (m : Int), .slice A2 n c2] 65) = w3 := ⟨_, rfl⟩
  have b9 := HB9.out
  have ot3 := HOT.out
  have bz3 := HBZ.out
  have bt3 := HBT.out
  have k3 := HK3.out
  rw [hw3] at b9 ot3 bz3 bt3 k3 ⊢
  have hz3 : w2.heap.size < w3.heap.size := b9.lt
  have hg9 : w.heap.size + 1 < w2.heap.size := by omega
  have hB1 : w.heap.size + 1 < w1.heap.size := by omega
  clear HB9 HOT HBZ HBT HK3 hw3 z2 HB0 HB1
  go_loopw [30] (fun i wr => ∃ (k : Nat) (o2 : List Row), k ≤ n ∧ i = .int .i64 k ∧ Ot wr w1.heap.size A2 n c2 o2 ∧ rows o2 = addTo (atPlace p x) zss k 0 ∧ okTo (okRow (atPlace p x) zss m) k = true ∧
    Blk wr w2.heap.size 65 #[.int .i64 (m : Int), .slice A2 n c2] ∧ Blk wr (w.heap.size + 1) 65 #[.int .i64 0, .slice none 0 0] ∧ Blk wr w.heap.size 65 #[.int .i64 (m : Int), .slice A n c] ∧ Below w.heap.size w wr) (fun i _ => n - (intOf i).toNat)
  case atStart => exact ⟨0, o2, Nat.zero_le _, rfl, ot3, HRO.out, rfl, b9, bz3, bt3, k3⟩
  case round =>
    clear b9 ot3 bz3 bt3 k3 HRO hz3
    obtain ⟨k, o2, hk, rfl, ot, hro, hok, b9, bz, bt, kr⟩ := hrel
    have HOT := hide ot
    have HRO := hide hro
    have HOK := hide hok
    have HB9 := hide b9
    have HBZ := hide bz
    have HBT := hide bt
    clear hro hok
    by_cases hlt : k < n
    · obtain ⟨ad, ⟨Ar, nr, cr, zs⟩, rfl, hbk, ho, hc, hs⟩ := (ot.ss).cell hlt
      dsimp only at hc hs
      have hkz : k < zss.length := by rw [← HZ.out, rows_len, HL.out]; exact hlt
      obtain ⟨zs0, hz0⟩ : ∃ zs0, zss[k]? = some zs0 := ⟨_, List.getElem?_eq_getElem hkz⟩
      have hz1 := rows_at ho
      rw [HRO.out, addTo_cur hz0] at hz1
      injection hz1 with hz1
      dsimp only at hz1
      subst hz1
      have hnr : (zs0.length : Int) = m := HK.out.row k zs0 hz0
      have hnr2 : nr = m := by have := hs.ilen; omega
      subst hnr2
      have hzl := hs.ilen
      obtain ⟨g, rfl, hg1, hg2⟩ := (ot.r k _ ho).addr (show 0 < nr by omega)
      have hg3 : g ≠ w2.heap.size := fun e => (ot.r k _ ho).apart_blk b9 (by decide) (by rw [e]; rfl)
      have hpk : p k < nr := HPL.out k (by omega)
      obtain ⟨y, hy⟩ : ∃ y, zs0[p k]? = some y := ⟨_, List.getElem?_eq_getElem (by omega)⟩
      obtain ⟨y0, y1⟩ := HK.out.cnt k zs0 (p k) y hz0 hy
      have HROW := hide (okRow_place (p := p) (n := x) hz0 hzl (fun j y hj => (HK.out.cnt k zs0 j y hz0 hj).2) hy)
      have HADD := hide (addTo_place (n := x) hz0 hy (addTo_cur hz0))
      have HCPK := hide (fun w => HCP.out w k (by omega))
      have HO := hide ho
      have HY := hide hy
      have HK4 := hide (show k < 1000 by omega)
      obtain ⟨pk, hpe⟩ : ∃ pk, p k = pk := ⟨_, rfl⟩
      rw [hpe] at hpk HY HADD HCPK
      clear hz0 hy hkz hnr hzl ho hpe
      have q0 : wr.cell? ⟨w.heap.size, 0, none⟩ = some (.int .i64 (nr : Int)) := bt.at_ (i := 0) rfl
      have q1 : wr.cell? ⟨w.heap.size, 1, none⟩ = some (.slice A n c) := bt.at_ (i := 1) rfl
      clear ot b9 bz bt
      go_wp2_with fail
      refine (HCPK.out _).mono ?_
      rintro e w5 ⟨rfl, hb5⟩
      have k5 := below_on kr hb5
      have ot5 := HOT.out.below hb5 (Nat.le_refl _)
      have b95 := HB9.out.below hb5 HB9.out.lt
      have bz5 := HBZ.out.below hb5 HBZ.out.lt
      have bt5 := HBT.out.below hb5 HBT.out.lt
      have own5 := ot5.r k _ HO.out
      have hcy : w5.cell? ⟨g, pk, none⟩ = some (.int .i64 y) := own5.cell (ints_at HY.out)
      have hfy : w5.frozen? ⟨g, pk, none⟩ = false := own5.free pk
      have z5 := hb5.size
      have otS := ot5.store (k := pk) HO.out (y + x)
      have b9S := b95.far (p := ⟨g, pk, none⟩) (by dsimp only; omega) (.int .i64 (y + x))
      have bzS := bz5.far (p := ⟨g, pk, none⟩) (by dsimp only; omega) (.int .i64 (y + x))
      have btS := bt5.far (p := ⟨g, pk, none⟩) (by dsimp only; omega) (.int .i64 (y + x))
      have kS := below_set k5 (p := ⟨g, pk, none⟩) (by dsimp only; omega) (.int .i64 (y + x))
      have OTS := hide otS
      have B9S := hide b9S
      have BZS := hide bzS
      have BTS := hide btS
      have KS := hide kS
      have q50 : w5.cell? ⟨w.heap.size, 0, none⟩ = some (.int .i64 (nr : Int)) := bt5.at_ (i := 0) rfl
      have q51 : w5.cell? ⟨w.heap.size, 1, none⟩ = some (.slice A n c) := bt5.at_ (i := 1) rfl
      have hne0 : w.heap.size ≠ g := by omega
      clear ot5 b95 bz5 bt5 own5 otS b9S bzS btS kS q0 q1
      go_wp2_with fail
      refine (HCPK.out _).mono ?_
      rintro e w6 ⟨rfl, hb6⟩
      have k6 := below_on KS.out hb6
      have ot6 := OTS.out.below hb6 (Nat.le_refl _)
      have b96 := B9S.out.below hb6 B9S.out.lt
      have bz6 := BZS.out.below hb6 BZS.out.lt
      have bt6 := BTS.out.below hb6 BTS.out.lt
      have own6 := ot6.r k (some ⟨g, 0, none⟩, nr, cr, zs0.set pk (y + x)) (by rw [List.getElem?_set_self (List.getElem?_eq_some_iff.1 HO.out).1])
      have hcz : w6.cell? ⟨g, pk, none⟩ = some (.int .i64 (y + x)) := own6.cell (ints_at (by rw [List.getElem?_set_self (List.getElem?_eq_some_iff.1 HY.out).1]))
      have p0 : w6.cell? ⟨w.heap.size + 1, 0, none⟩ = some (.int .i64 0) := bz6.at_ (i := 0) rfl
      have p1 : w6.cell? ⟨w.heap.size + 1, 1, none⟩ = some (.slice none 0 0) := bz6.at_ (i := 1) rfl
      have f0 := bz6.free 0
      have f1 := bz6.free 1
      by_cases hle : y + x ≤ 1000000000000
      · have hro6 : rows (o2.set k (some ⟨g, 0, none⟩, nr, cr, zs0.set pk (y + x))) = addTo (atPlace p x) zss (k + 1) 0 := by rw [rows_set, HRO.out, HADD.out]
        have hok6 := okTo_next HOK.out (by rw [HROW.out]; exact decide_eq_true hle)
        have HRO6 := hide hro6
        have HOK6 := hide hok6
        clear hro6 hok6
        go_wp2_with fail
        go_roundw
        case rel => exact ⟨k + 1, _, by omega, by go_num, ot6, HRO6.out, HOK6.out, b96, bz6, bt6, k6⟩
        case measure => simp [intOf]; omega
      · have hB := HB.out
        rw [show okTab (atPlace p x) zss nr n = false from okTo_bad (k := k) (by rw [HROW.out]; exact decide_eq_false hle) n hlt] at hB
        subst hB
        go_wp2_with fail
        refine bodyPost_ret (v := .tuple #[.agg #[.int .i64 0, .slice none 0 0], .int .i64 2]) (by simp [results, Try.results39, go_sem, p0, p1]) rfl ⟨none, 0, 0, [], rfl, Ss.none _, rfl, by repeat' (first | assumption | with_reducible exact Below.refl _ _ | with_reducible apply Below.drew | with_reducible apply below_drewN | with_reducible apply below_alloc | with_reducible refine below_set ?_ ?_ _ | (simp only [World.size_alloc, World.heap_drewN]; omega) | (simp; omega))⟩
    · obtain rfl : k = n := by omega
      have hB := HB.out
      rw [show okTab (atPlace p x) zss m k = true from HOK.out] at hB
      subst hB
      have hr := HRO.out
      rw [addTo_all (by rw [← HZ.out, rows_len, HL.out])] at hr
      have HR := hide hr
      have c0 : wr.cell? ⟨w2.heap.size, 0, none⟩ = some (.int .i64 (m : Int)) := b9.at_ (i := 0) rfl
      have c1 : wr.cell? ⟨w2.heap.size, 1, none⟩ = some (.slice A2 k c2) := b9.at_ (i := 1) rfl
      have p0 : wr.cell? ⟨w.heap.size + 1, 0, none⟩ = some (.int .i64 0) := bz.at_ (i := 0) rfl
      have p1 : wr.cell? ⟨w.heap.size + 1, 1, none⟩ = some (.slice none 0 0) := bz.at_ (i := 1) rfl
      have f0 := bz.free 0
      have f1 := bz.free 1
      clear hr ot bt b9 bz
      go_wp2_with fail
      refine bodyPost_ret (v := .tuple #[.agg #[.int .i64 (m : Int), .slice A2 k c2], .int .i64 0]) (by simp [results, Try.results39, go_sem, p0, p1]) rfl ⟨A2, k, c2, o2, rfl, ((HOT.out.low (p := ⟨w.heap.size + 1, 0, none⟩) (by dsimp only; omega) _).low (p := ⟨w.heap.size + 1, 1, none⟩) (by dsimp only; omega) _).ss, HR.out, ?_⟩
      exact below_set (below_set kr (p := ⟨w.heap.size + 1, 0, none⟩) (by dsimp only; omega) _) (p := ⟨w.heap.size + 1, 1, none⟩) (by dsimp only; omega) _
end
end Go.Proofs.Ytjmkejindmgckaa
