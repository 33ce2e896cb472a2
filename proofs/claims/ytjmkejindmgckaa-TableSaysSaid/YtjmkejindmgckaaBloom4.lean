/-
  bloom.Put where the filter may be: the walk. Condition: the bits read as a list.
-/
import Derived.Test.YtjmkejindmgckaaBloom3
namespace Go.Proofs.Ytjmkejindmgckaa
open Go.RowKit

/-- The bits when the first j places have been set. -/
def bitsTo (ps : List Int) (bs : List Bool) : Nat → List Bool
  | 0 => bs
  | j + 1 => (bitsTo ps bs j).set (ps.getD j 0).toNat true
theorem bitsTo_len (ps : List Int) (bs : List Bool) : ∀ j, (bitsTo ps bs j).length = bs.length
  | 0 => rfl
  | j + 1 => by rw [bitsTo, List.length_set, bitsTo_len ps bs j]
theorem bitsTo_next {ps : List Int} {bs : List Bool} {j p : Nat} (h : ps[j]? = some (p : Int)) : bitsTo ps bs (j + 1) = (bitsTo ps bs j).set p true := by rw [bitsTo, getD_of h, Int.toNat_natCast]
theorem plcTo_at {s k m j : Nat} (h : j < m) : (plcTo s k m)[j]? = some (plc s k j : Int) := by simp [plcTo, h]
theorem plc_lt {s k j : Nat} (h : 0 < s) : plc s k j < s := Nat.mod_lt _ h
def PutRet (w : World) (S K : Int) (n : Nat) (bs : List Bool) (e : Ending) (w' : World) : Prop :=
  ∃ A c, e = .returned (.tuple #[.agg #[.int .i64 S, .int .i64 K, .slice A n c], .int .i64 0]) ∧ Own w' w.heap.size 4 1 A n c (bools bs) ∧ Below w.heap.size w w'
set_option maxRecDepth 100000 in
set_option maxHeartbeats 3200000 in
theorem bloomPut_ok {A : Option Addr} {n c m : Nat} {key : Int} {bs : List Bool} {w : World} (h : Sb w A n c bs) (he : fltErr n m n = 0) :
    Calls Try.prog 20 #[.agg #[.int .i64 (n : Int), .int .i64 (m : Int), .slice A n c], .int .i64 key] w (PutRet w n m n (bitsTo (plcTo n (keyN key) m) bs m)) := by
  obtain ⟨s1, s2, k1, k2, _⟩ := fltErr_zero he
  have n1 : 1 ≤ n := by omega
  have n2 : n ≤ 256 := by omega
  have m2 : m ≤ 8 := by omega
  have H := hide he
  have HBL := hide h.blen
  have CP := hide (fun (w : World) (A : Option Addr) (c : Nat) => places_ok (A := A) (n := n) (c := c) (s := n) (m := m) (key := key) (w := w) n1 n2 m2)
  obtain ⟨ps, hps⟩ : ∃ ps, plcTo n (keyN key) m = ps := ⟨_, rfl⟩
  have HPA := hide (fun (j : Nat) (hj : j < m) => (show ∃ p : Nat, p < n ∧ ps[j]? = some (p : Int) from ⟨_, plc_lt n1, by rw [← hps]; exact plcTo_at hj⟩))
  rw [hps] at CP ⊢
  clear he hps s1 s2 k1 k2
  go_enter Try.func20, Try.ntmps20
  go_wp2_with fail
  refine (bloomCheck_is h.len_max H.out).mono ?_
  rintro e w1 ⟨rfl, hb1⟩
  have hw1 : Below w.heap.size w w1 := below_on (by repeat' (first | assumption | with_reducible exact Below.refl _ _ | with_reducible apply Below.drew | with_reducible apply below_drewN | with_reducible apply below_alloc | with_reducible refine below_set ?_ ?_ _ | (simp only [World.size_alloc, World.heap_drewN]; omega) | (simp; omega))) hb1
  have z1 := hb1.size
  simp only [World.size_alloc] at z1
  have bf := ((Blk.new w 42 #[.int .i64 (n : Int), .int .i64 (m : Int), .slice A n c]).alloc (.cells #[.int .i64 0, .int .i64 0, .slice none 0 0] 42)).below hb1 (by simp only [World.size_alloc]; omega)
  have b1 := Blk.new (w.alloc (.cells #[.int .i64 (n : Int), .int .i64 (m : Int), .slice A n c] 42)) 42 #[.int .i64 0, .int .i64 0, .slice none 0 0]
  rw [World.size_alloc] at b1
  have br := b1.below hb1 (by simp only [World.size_alloc]; omega)
  have q2 : w1.cell? ⟨w.heap.size, 2, none⟩ = some (.slice A n c) := bf.at_ (i := 2) rfl
  clear b1
  go_wp2_with fail
  refine (clone_bools A n c bs w1 (h.on hw1) (by omega)).mono ?_
  rintro e w2 ⟨v2, rfl, hb2, A2, c2, rfl, own2⟩
  have bf2 := bf.below hb2 bf.lt
  have br2 := br.below hb2 br.lt
  have hw2 := below_on hw1 hb2
  have r0 : w2.cell? ⟨w.heap.size, 0, none⟩ = some (.int .i64 (n : Int)) := bf2.at_ (i := 0) rfl
  have r1 : w2.cell? ⟨w.heap.size, 1, none⟩ = some (.int .i64 (m : Int)) := bf2.at_ (i := 1) rfl
  have r2 : w2.cell? ⟨w.heap.size, 2, none⟩ = some (.slice A n c) := bf2.at_ (i := 2) rfl
  have rf := bf2.free 2
  have bfl := bf2.lt
  have brl := br2.lt
  obtain ⟨ga, rfl, hga1, hga2⟩ := own2.addr n1
  have bf3 : Blk (w2.setCell ⟨w.heap.size, 2, none⟩ (.slice (some ⟨ga, 0, none⟩) n c2)) w.heap.size 42 #[.int .i64 (n : Int), .int .i64 (m : Int), .slice (some ⟨ga, 0, none⟩) n c2] := by
    have hb := bf2.set 2 (.slice (some ⟨ga, 0, none⟩) n c2)
    simpa using hb
  have br3 := br2.far (p := ⟨w.heap.size, 2, none⟩) (by dsimp only; omega) (.slice (some ⟨ga, 0, none⟩) n c2)
  have own3 := own2.low (p := ⟨w.heap.size, 2, none⟩) (by dsimp only; omega) (.slice (some ⟨ga, 0, none⟩) n c2)
  have hw3 := below_set hw2 (p := ⟨w.heap.size, 2, none⟩) (Nat.le_refl _) (.slice (some ⟨ga, 0, none⟩) n c2)
  have HB3 := hide bf3
  have HR3 := hide br3
  have HO3 := hide own3
  have HW3 := hide hw3
  clear bf3 br3 own3 hw3 q2 bf br bf2 br2
  go_wp2_with fail
  refine (CP.out _ _ _).mono ?_
  rintro e w4 ⟨A4, c4, rfl, own4, hb4⟩
  have bfw := HB3.out.below hb4 HB3.out.lt
  have brw := HR3.out.below hb4 HR3.out.lt
  have owb := HO3.out.below hb4 (Nat.le_refl _)
  have hw4 := below_on HW3.out hb4
  obtain ⟨b4, hb4e⟩ : ∃ b : Nat, (w2.setCell ⟨w.heap.size, 2, none⟩ (.slice (some ⟨ga, 0, none⟩) n c2)).heap.size = b := ⟨_, rfl⟩
  rw [hb4e] at own4
  clear hb4 hb4e HB3 HR3 HO3 HW3 r0 r1 r2 rf
  go_wp2_with fail
  go_loopw [23] (fun vi wr => ∃ j : Nat, j ≤ m ∧ vi = .int .i64 j ∧ Own wr w1.heap.size 4 1 (some ⟨ga, 0, none⟩) n c2 (bools (bitsTo ps bs j)) ∧ Own wr b4 3 1 A4 m c4 (ints ps) ∧ Blk wr w.heap.size 42 #[.int .i64 (n : Int), .int .i64 (m : Int), .slice (some ⟨ga, 0, none⟩) n c2] ∧
    Blk wr (w.heap.size + 1) 42 #[.int .i64 0, .int .i64 0, .slice none 0 0] ∧ Below w.heap.size w wr) (fun i _ => m - (intOf i).toNat)
  case atStart => exact ⟨0, Nat.zero_le _, rfl, owb, own4, bfw, brw, hw4⟩
  case round =>
    clear owb own4 bfw brw hw4
    obtain ⟨j, hj, rfl, owb, owp, bf, br, hb⟩ := hrel
    by_cases hlt : j < m
    · obtain ⟨p, hpn, hp⟩ := HPA.out j hlt
      obtain ⟨ad, x, rfl, hbk, hx, hc⟩ := owp.sl.icell hlt
      rw [hp] at hx
      injection hx with hx
      subst hx
      have HN := hide (bitsTo_next (bs := bs) hp)
      have hbl := bitsTo_len ps bs j
      rw [HBL.out] at hbl
      have hcb := owb.cell (bools_at (show (bitsTo ps bs j)[p]? = some ((bitsTo ps bs j)[p]'(by omega)) from List.getElem?_eq_getElem (by omega)))
      have hfb := owb.free p
      have c2' : wr.cell? ⟨w.heap.size, 2, none⟩ = some (.slice (some ⟨ga, 0, none⟩) n c2) := bf.at_ (i := 2) rfl
      have hap := owp.apart_type owb (by decide)
      clear hp
      go_wp2_with fail
      go_roundw
      case rel =>
        refine ⟨j + 1, by omega, by go_num, ?_, owp.far (p := ⟨ga, p, none⟩) (fun g hg e => hap g (by rw [hg]; rfl) (show some ga = some g from congrArg some e.symm)) _, bf.far (p := ⟨ga, p, none⟩) (by dsimp only; omega) _, br.far (p := ⟨ga, p, none⟩) (by dsimp only; omega) _, below_set hb (p := ⟨ga, p, none⟩) (by dsimp only; omega) _⟩
        rw [HN.out, bools_set]
        exact owb.set p _
      case measure => simp [intOf]; omega
    · obtain rfl : j = m := by omega
      have c0 : wr.cell? ⟨w.heap.size, 0, none⟩ = some (.int .i64 (n : Int)) := bf.at_ (i := 0) rfl
      have c1 : wr.cell? ⟨w.heap.size, 1, none⟩ = some (.int .i64 (j : Int)) := bf.at_ (i := 1) rfl
      have c2' : wr.cell? ⟨w.heap.size, 2, none⟩ = some (.slice (some ⟨ga, 0, none⟩) n c2) := bf.at_ (i := 2) rfl
      have p0 : wr.cell? ⟨w.heap.size + 1, 0, none⟩ = some (.int .i64 0) := br.at_ (i := 0) rfl
      have p1 : wr.cell? ⟨w.heap.size + 1, 1, none⟩ = some (.int .i64 0) := br.at_ (i := 1) rfl
      have p2 : wr.cell? ⟨w.heap.size + 1, 2, none⟩ = some (.slice none 0 0) := br.at_ (i := 2) rfl
      have f0 := br.free 0
      have f1 := br.free 1
      have f2 := br.free 2
      go_wp2_with fail
      refine bodyPost_ret (v := .tuple #[.agg #[.int .i64 (n : Int), .int .i64 (j : Int), .slice (some ⟨ga, 0, none⟩) n c2], .int .i64 0]) (by simp [results, Try.results20, go_sem, p0, p1, p2]) rfl ⟨_, _, rfl, ?_, ?_⟩
      · exact ((((owb.low (by dsimp only; omega) _).low (by dsimp only; omega) _).low (by dsimp only; omega) _).mono (by omega))
      · repeat' (first | assumption | with_reducible exact Below.refl _ _ | with_reducible apply Below.drew | with_reducible apply below_drewN | with_reducible apply below_alloc | with_reducible refine below_set ?_ ?_ _ | (simp only [World.size_alloc, World.heap_drewN]; omega) | (simp; omega))
end Go.Proofs.Ytjmkejindmgckaa
