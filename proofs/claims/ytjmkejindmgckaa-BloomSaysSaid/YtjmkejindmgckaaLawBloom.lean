/-
  The walk of the law BloomSays. Condition: the bits read as lists.
-/
import Derived.Test.YtjmkejindmgckaaBloom8
import Derived.Deep.RegionHeld3
import Derived.Test.YtjmkejindmgckaaOrdM
import Derived.Deep.RegionLaw
import Derived.Deep.DeepCutAuto
namespace Go.Proofs.Ytjmkejindmgckaa
open Go.RowKit

theorem filter_is {S K : Int} {A : Option Addr} {n c : Nat} {w : World} (hn : n ≤ 9223372036854775807) {E : Int} (he : fltErr S K n = E) :
    Calls Try.prog 23 #[.agg #[.int .i64 S, .int .i64 K, .slice A n c]] w fun e w' => e = .returned (.int .i64 E) ∧ Below w.heap.size w w' := by
  have k := filter_any (S := S) (K := K) (A := A) (c := c) (w := w) hn; rw [he] at k; exact k
theorem flt_zero : fltErr 0 0 0 = 1 := by decide
/-- The two filters that came, each in a block of its own. -/
structure FG (w wi : World) (gf gg : Nat) (cf cg : Array Value) : Prop where
  b : Below w.heap.size w wi
  f : Blk wi gf 42 cf
  g : Blk wi gg 42 cg
  l : gf < gg
  z : w.heap.size ≤ gf
section
variable {w wi wj : World} {gf gg : Nat} {cf cg : Array Value}
theorem FG.on (h : FG w wi gf gg cf cg) (hb : Below wi.heap.size wi wj) : FG w wj gf gg cf cg := ⟨below_on h.b hb, h.f.below hb h.f.lt, h.g.below hb h.g.lt, h.l, h.z⟩
theorem FG.start : FG w ((w.alloc (.cells cf 42)).alloc (.cells cg 42)) w.heap.size (w.heap.size + 1) cf cg :=
  ⟨((Below.refl _ _).alloc (Nat.le_refl _) _).alloc (by simp) _, (Blk.new _ _ _).alloc _, by have := Blk.new (w.alloc (.cells cf 42)) 42 cg; rwa [World.size_alloc] at this, by omega, Nat.le_refl _⟩
end
/-- What Join leaves, whatever comes. -/
def JRes (S K : Int) (n : Nat) (S2 K2 : Int) (m : Nat) (xs zs : List Bool) (YS YK : Int) (Y : Option Addr) (yn yc : Nat) (ys : List Bool) (E3 : Int) : Prop :=
  (fjErr S K n S2 K2 m ≠ 0 ∧ E3 = fjErr S K n S2 K2 m ∧ YS = 0 ∧ YK = 0 ∧ Y = none ∧ yn = 0 ∧ yc = 0 ∧ ys = []) ∨
  (fjErr S K n S2 K2 m = 0 ∧ E3 = 0 ∧ S = S2 ∧ K = K2 ∧ n = m ∧ YS = S ∧ YK = K ∧ yn = n ∧ ys = orTo xs zs n ∧ fltErr S2 K2 m = 0)
theorem join_any {S K S2 K2 : Int} {A B : Option Addr} {n c m d : Nat} {xs zs : List Bool} {w : World} (h : Sb w A n c xs) (hk : Sb w B m d zs) (h0 : fltErr S K n = 0) :
    Calls Try.prog 22 #[.agg #[.int .i64 S, .int .i64 K, .slice A n c], .agg #[.int .i64 S2, .int .i64 K2, .slice B m d]] w fun e w' =>
      ∃ YS YK Y yn yc ys E3, e = .returned (.tuple #[.agg #[.int .i64 YS, .int .i64 YK, .slice Y yn yc], .int .i64 E3]) ∧ Sb w' Y yn yc ys ∧ Below w.heap.size w w' ∧ JRes S K n S2 K2 m xs zs YS YK Y yn yc ys E3 := by
  by_cases e : fjErr S K n S2 K2 m = 0
  · have e2 := e
    unfold fjErr at e2
    rw [if_neg (by simpa using h0)] at e2
    by_cases g0 : fltErr S2 K2 m = 0
    · rw [if_neg (by simpa using g0)] at e2
      by_cases g1 : S ≠ S2 ∨ K ≠ K2
      · rw [if_pos g1] at e2; omega
      · obtain ⟨rfl, rfl⟩ : S = S2 ∧ K = K2 := by omega
        obtain ⟨a1, a2, a3, a4, a5⟩ := fltErr_zero h0
        obtain ⟨b1, b2, b3, b4, b5⟩ := fltErr_zero g0
        obtain rfl : n = m := by omega
        obtain ⟨k, rfl⟩ : ∃ k : Nat, K = (k : Int) := ⟨K.toNat, by omega⟩
        subst a5
        refine (bloomJoin_ok h hk h0).mono ?_
        rintro e w' ⟨A', c', rfl, own, hb⟩
        exact ⟨_, _, _, _, _, _, _, rfl, own.sl, hb, .inr ⟨e, rfl, rfl, rfl, rfl, rfl, rfl, rfl, rfl, g0⟩⟩
    · rw [if_pos g0] at e2; exact absurd e2 g0
  · refine (bloomJoin_bad h.len_max hk.len_max rfl e).mono ?_
    rintro e' w' ⟨rfl, hb⟩
    exact ⟨_, _, _, _, _, _, _, rfl, Sl.nil _ _ _, hb, .inl ⟨e, rfl, rfl, rfl, rfl, rfl, rfl, rfl⟩⟩
theorem JRes.err {S K : Int} {n : Nat} {S2 K2 : Int} {m : Nat} {xs zs : List Bool} {YS YK : Int} {Y : Option Addr} {yn yc : Nat} {ys : List Bool} {E3 : Int} (h : JRes S K n S2 K2 m xs zs YS YK Y yn yc ys E3) : E3 = fjErr S K n S2 K2 m := by
  rcases h with ⟨_, h, _⟩ | ⟨h1, h, _⟩
  · exact h
  · rw [h, h1]

section
variable {A B : Option Addr} {n c m d : Nat} {xs zs : List Bool} {w : World} {S K S2 K2 key : Int}
set_option maxRecDepth 100000 in
set_option maxHeartbeats 3200000 in
theorem law_bloom_bad (h : Sb w A n c xs) (hk : Sb w B m d zs) (h0 : ¬ fltErr S K n = 0) :
    Calls Try.prog 5 #[.agg #[.int .i64 S, .int .i64 K, .slice A n c], .agg #[.int .i64 S2, .int .i64 K2, .slice B m d], .int .i64 key] w fun e w' => e = .returned (.bool true) ∧ Below w.heap.size w w' := by
  obtain ⟨E, hE⟩ : ∃ E, fltErr S K n = E := ⟨_, rfl⟩
  have HJ := hide (show fjErr S K n S2 K2 m = E by unfold fjErr; rw [if_pos h0, hE])
  rw [hE] at h0
  have t1 : (E != 0) = true := by simpa using h0
  have HE := hide hE
  have H0 := hide h0
  clear hE h0
  go_enter Try.func5, Try.ntmps5
  go_wp2_with fail
  have F0 := FG.start (w := w) (cf := #[.int .i64 S, .int .i64 K, .slice A n c]) (cg := #[.int .i64 S2, .int .i64 K2, .slice B m d])
  obtain ⟨w0, hw0⟩ : ∃ w0, (w.alloc (.cells #[.int .i64 S, .int .i64 K, .slice A n c] 42)).alloc (.cells #[.int .i64 S2, .int .i64 K2, .slice B m d] 42) = w0 := ⟨_, rfl⟩
  rw [hw0] at F0 ⊢
  clear hw0
  refine (bloomPut_bad h.len_max HE.out H0.out).mono ?_
  rintro e w1 ⟨rfl, hc1⟩
  have hb1 : Below w0.heap.size w0 w1 := below_on (by repeat' (first | assumption | with_reducible exact Below.refl _ _ | with_reducible apply Below.drew | with_reducible apply below_drewN | with_reducible apply below_alloc | with_reducible refine below_set ?_ ?_ _ | (simp only [World.size_alloc, World.heap_drewN]; omega) | (simp; omega))) hc1
  have F1 := F0.on hb1
  have pf0 := F1.f.at_ (i := 0) rfl
  have pf1 := F1.f.at_ (i := 1) rfl
  have pf2 := F1.f.at_ (i := 2) rfl
  have pg0 := F1.g.at_ (i := 0) rfl
  have pg1 := F1.g.at_ (i := 1) rfl
  have pg2 := F1.g.at_ (i := 2) rfl
  have lf := F1.f.lt
  have lg := F1.g.lt
  go_wp2_with fail
  refine (bloomHas_bad h.len_max HE.out H0.out).mono ?_
  rintro e w2 ⟨rfl, hc2⟩
  have hb2 : Below w1.heap.size w1 w2 := below_on (by repeat' (first | assumption | with_reducible exact Below.refl _ _ | with_reducible apply Below.drew | with_reducible apply below_drewN | with_reducible apply below_alloc | with_reducible refine below_set ?_ ?_ _ | (simp only [World.size_alloc, World.heap_drewN]; omega) | (simp; omega))) hc2
  have F2 := F1.on hb2
  have X2 := (Blk.new w1 42 #[.int .i64 0, .int .i64 0, .slice none 0 0]).below hc2 (Blk.new w1 42 #[.int .i64 0, .int .i64 0, .slice none 0 0]).lt
  clear F1 pf0 pf1 pf2 pg0 pg1 pg2 lf lg 
  have pf0 := F2.f.at_ (i := 0) rfl
  have pf1 := F2.f.at_ (i := 1) rfl
  have pf2 := F2.f.at_ (i := 2) rfl
  have pg0 := F2.g.at_ (i := 0) rfl
  have pg1 := F2.g.at_ (i := 1) rfl
  have pg2 := F2.g.at_ (i := 2) rfl
  have lf := F2.f.lt
  have lg := F2.g.lt
  have Xl := X2.lt
  have Xc0 := X2.at_ (i := 0) rfl
  have Xc1 := X2.at_ (i := 1) rfl
  have Xc2 := X2.at_ (i := 2) rfl
  go_wp2_with fail
  refine (bloomJoin_bad h.len_max hk.len_max HJ.out H0.out).mono ?_
  rintro e w3 ⟨rfl, hc3⟩
  have hb3 : Below w2.heap.size w2 w3 := below_on (by repeat' (first | assumption | with_reducible exact Below.refl _ _ | with_reducible apply Below.drew | with_reducible apply below_drewN | with_reducible apply below_alloc | with_reducible refine below_set ?_ ?_ _ | (simp only [World.size_alloc, World.heap_drewN]; omega) | (simp; omega))) hc3
  have F3 := F2.on hb3
  have X3 := X2.below hb3 X2.lt
  clear F2 pf0 pf1 pf2 pg0 pg1 pg2 lf lg X2 Xc0 Xc1 Xc2 Xl
  have pf0 := F3.f.at_ (i := 0) rfl
  have pf1 := F3.f.at_ (i := 1) rfl
  have pf2 := F3.f.at_ (i := 2) rfl
  have pg0 := F3.g.at_ (i := 0) rfl
  have pg1 := F3.g.at_ (i := 1) rfl
  have pg2 := F3.g.at_ (i := 2) rfl
  have lf := F3.f.lt
  have lg := F3.g.lt
  have Xl := X3.lt
  have Xc0 := X3.at_ (i := 0) rfl
  have Xc1 := X3.at_ (i := 1) rfl
  have Xc2 := X3.at_ (i := 2) rfl
  go_wp2_with fail
  refine (filter_is h.len_max HE.out).mono ?_
  rintro e w4 ⟨rfl, hc4⟩
  have hb4 : Below w3.heap.size w3 w4 := below_on (by repeat' (first | assumption | with_reducible exact Below.refl _ _ | with_reducible apply Below.drew | with_reducible apply below_drewN | with_reducible apply below_alloc | with_reducible refine below_set ?_ ?_ _ | (simp only [World.size_alloc, World.heap_drewN]; omega) | (simp; omega))) hc4
  have F4 := F3.on hb4
  have X4 := X3.below hb4 X3.lt
  have Y4 := (Blk.new w3 42 #[.int .i64 0, .int .i64 0, .slice none 0 0]).below hc4 (Blk.new w3 42 #[.int .i64 0, .int .i64 0, .slice none 0 0]).lt
  clear F3 pf0 pf1 pf2 pg0 pg1 pg2 lf lg X3 Xc0 Xc1 Xc2 Xl
  have pf0 := F4.f.at_ (i := 0) rfl
  have pf1 := F4.f.at_ (i := 1) rfl
  have pf2 := F4.f.at_ (i := 2) rfl
  have pg0 := F4.g.at_ (i := 0) rfl
  have pg1 := F4.g.at_ (i := 1) rfl
  have pg2 := F4.g.at_ (i := 2) rfl
  have lf := F4.f.lt
  have lg := F4.g.lt
  have Xl := X4.lt
  have Yl := Y4.lt
  have Xc0 := X4.at_ (i := 0) rfl
  have Xc1 := X4.at_ (i := 1) rfl
  have Xc2 := X4.at_ (i := 2) rfl
  have Yc0 := Y4.at_ (i := 0) rfl
  have Yc1 := Y4.at_ (i := 1) rfl
  have Yc2 := Y4.at_ (i := 2) rfl
  go_wp2_with fail
  refine (bloomCheck_is h.len_max HE.out).mono ?_
  rintro e w5 ⟨rfl, hc5⟩
  have hb5 : Below w4.heap.size w4 w5 := below_on (by repeat' (first | assumption | with_reducible exact Below.refl _ _ | with_reducible apply Below.drew | with_reducible apply below_drewN | with_reducible apply below_alloc | with_reducible refine below_set ?_ ?_ _ | (simp only [World.size_alloc, World.heap_drewN]; omega) | (simp; omega))) hc5
  have F5 := F4.on hb5
  have X5 := X4.below hb5 X4.lt
  have Y5 := Y4.below hb5 Y4.lt
  clear F4 pf0 pf1 pf2 pg0 pg1 pg2 lf lg X4 Xc0 Xc1 Xc2 Xl Y4 Yc0 Yc1 Yc2 Yl
  have pf0 := F5.f.at_ (i := 0) rfl
  have pf1 := F5.f.at_ (i := 1) rfl
  have pf2 := F5.f.at_ (i := 2) rfl
  have pg0 := F5.g.at_ (i := 0) rfl
  have pg1 := F5.g.at_ (i := 1) rfl
  have pg2 := F5.g.at_ (i := 2) rfl
  have lf := F5.f.lt
  have lg := F5.g.lt
  have Xl := X5.lt
  have Yl := Y5.lt
  have Xc0 := X5.at_ (i := 0) rfl
  have Xc1 := X5.at_ (i := 1) rfl
  have Xc2 := X5.at_ (i := 2) rfl
  have Yc0 := Y5.at_ (i := 0) rfl
  have Yc1 := Y5.at_ (i := 1) rfl
  have Yc2 := Y5.at_ (i := 2) rfl
  go_wp2_with fail
  refine (bloomCheck_is (A := none) (c := 0) (by omega) flt_zero).mono ?_
  rintro e w6 ⟨rfl, hc6⟩
  have hb6 : Below w5.heap.size w5 w6 := below_on (by repeat' (first | assumption | with_reducible exact Below.refl _ _ | with_reducible apply Below.drew | with_reducible apply below_drewN | with_reducible apply below_alloc | with_reducible refine below_set ?_ ?_ _ | (simp only [World.size_alloc, World.heap_drewN]; omega) | (simp; omega))) hc6
  have F6 := F5.on hb6
  have X6 := X5.below hb6 X5.lt
  have Y6 := Y5.below hb6 Y5.lt
  clear F5 pf0 pf1 pf2 pg0 pg1 pg2 lf lg X5 Xc0 Xc1 Xc2 Xl Y5 Yc0 Yc1 Yc2 Yl
  have pf0 := F6.f.at_ (i := 0) rfl
  have pf1 := F6.f.at_ (i := 1) rfl
  have pf2 := F6.f.at_ (i := 2) rfl
  have pg0 := F6.g.at_ (i := 0) rfl
  have pg1 := F6.g.at_ (i := 1) rfl
  have pg2 := F6.g.at_ (i := 2) rfl
  have lf := F6.f.lt
  have lg := F6.g.lt
  have Xl := X6.lt
  have Yl := Y6.lt
  have Xc0 := X6.at_ (i := 0) rfl
  have Xc1 := X6.at_ (i := 1) rfl
  have Xc2 := X6.at_ (i := 2) rfl
  have Yc0 := Y6.at_ (i := 0) rfl
  have Yc1 := Y6.at_ (i := 1) rfl
  have Yc2 := Y6.at_ (i := 2) rfl
  go_wp2_with fail
  refine (sameFilter_yes 0 0 none none 0 0 0 [] _ (Sl.nil _ _ _) (Sl.nil _ _ _)).mono ?_
  rintro e w7 ⟨rfl, hc7⟩
  have hb7 : Below w6.heap.size w6 w7 := below_on (by repeat' (first | assumption | with_reducible exact Below.refl _ _ | with_reducible apply Below.drew | with_reducible apply below_drewN | with_reducible apply below_alloc | with_reducible refine below_set ?_ ?_ _ | (simp only [World.size_alloc, World.heap_drewN]; omega) | (simp; omega))) hc7
  have F7 := F6.on hb7
  have X7 := X6.below hb7 X6.lt
  have Y7 := Y6.below hb7 Y6.lt
  clear F6 pf0 pf1 pf2 pg0 pg1 pg2 lf lg X6 Xc0 Xc1 Xc2 Xl Y6 Yc0 Yc1 Yc2 Yl
  have pf0 := F7.f.at_ (i := 0) rfl
  have pf1 := F7.f.at_ (i := 1) rfl
  have pf2 := F7.f.at_ (i := 2) rfl
  have pg0 := F7.g.at_ (i := 0) rfl
  have pg1 := F7.g.at_ (i := 1) rfl
  have pg2 := F7.g.at_ (i := 2) rfl
  have lf := F7.f.lt
  have lg := F7.g.lt
  have Xl := X7.lt
  have Yl := Y7.lt
  have Xc0 := X7.at_ (i := 0) rfl
  have Xc1 := X7.at_ (i := 1) rfl
  have Xc2 := X7.at_ (i := 2) rfl
  have Yc0 := Y7.at_ (i := 0) rfl
  have Yc1 := Y7.at_ (i := 1) rfl
  have Yc2 := Y7.at_ (i := 2) rfl
  go_wp2_with fail
  refine (sameFilter_yes 0 0 none none 0 0 0 [] _ (Sl.nil _ _ _) (Sl.nil _ _ _)).mono ?_
  rintro e w8 ⟨rfl, hc8⟩
  have hb8 : Below w7.heap.size w7 w8 := below_on (by repeat' (first | assumption | with_reducible exact Below.refl _ _ | with_reducible apply Below.drew | with_reducible apply below_drewN | with_reducible apply below_alloc | with_reducible refine below_set ?_ ?_ _ | (simp only [World.size_alloc, World.heap_drewN]; omega) | (simp; omega))) hc8
  have F8 := F7.on hb8
  have X8 := X7.below hb8 X7.lt
  have Y8 := Y7.below hb8 Y7.lt
  clear F7 pf0 pf1 pf2 pg0 pg1 pg2 lf lg X7 Xc0 Xc1 Xc2 Xl Y7 Yc0 Yc1 Yc2 Yl
  have pf0 := F8.f.at_ (i := 0) rfl
  have pf1 := F8.f.at_ (i := 1) rfl
  have pf2 := F8.f.at_ (i := 2) rfl
  have pg0 := F8.g.at_ (i := 0) rfl
  have pg1 := F8.g.at_ (i := 1) rfl
  have pg2 := F8.g.at_ (i := 2) rfl
  have lf := F8.f.lt
  have lg := F8.g.lt
  have Xl := X8.lt
  have Yl := Y8.lt
  have Xc0 := X8.at_ (i := 0) rfl
  have Xc1 := X8.at_ (i := 1) rfl
  have Xc2 := X8.at_ (i := 2) rfl
  have Yc0 := Y8.at_ (i := 0) rfl
  have Yc1 := Y8.at_ (i := 1) rfl
  have Yc2 := Y8.at_ (i := 2) rfl
  go_wp2_with fail
  go_ret
  exact ⟨rfl, F8.b⟩
end
theorem noneTo_succ (p : Int → Bool) (l : List Int) (j : Nat) : noneTo p l (j + 1) = (noneTo p l j && !p (l.getD j 0)) := rfl
/-- The bits of both, of the first j places. -/
def orLst (xs zs : List Bool) (j : Nat) : List Bool := (List.range j).map fun (i : Nat) => xs.getD i false || zs.getD i false
theorem orLst_next {xs zs : List Bool} {j : Nat} {x y : Bool} (hx : xs[j]? = some x) (hy : zs[j]? = some y) : orLst xs zs (j + 1) = orLst xs zs j ++ [x || y] := by
  unfold orLst; rw [List.range_succ, List.map_append, List.map_singleton, getB_of hx, getB_of hy]
theorem orLst_all {xs zs : List Bool} {n : Nat} (h : xs.length = n) : orTo xs zs n = orLst xs zs n := by
  unfold orTo orLst
  rw [h]
  apply List.map_congr_left
  intro i hi
  rw [if_pos (List.mem_range.1 hi)]
/-- The filter that is put into. -/
structure PB (w6 wr : World) (gp ga n k cP : Nat) (bs : List Bool) : Prop where
  b : Below w6.heap.size w6 wr
  p : Blk wr gp 42 #[.int .i64 (n : Int), .int .i64 (k : Int), .slice (some ⟨ga, 0, none⟩) n cP]
  o : Own wr w6.heap.size 4 1 (some ⟨ga, 0, none⟩) n cP (bools bs)
  z : w6.heap.size ≤ gp
theorem PB.ne {w6 wr : World} {gp ga n k cP : Nat} {bs : List Bool} (h : PB w6 wr gp ga n k cP bs) : ga ≠ gp := fun e => h.o.apart h.p (by decide) ga rfl e
theorem PB.set {w6 wr : World} {gp ga n k cP : Nat} {bs : List Bool} (h : PB w6 wr gp ga n k cP bs) (j : Nat) (x : Bool) : PB w6 (wr.setCell ⟨ga, j, none⟩ (.bool x)) gp ga n k cP (bs.set j x) :=
  ⟨h.b.setCell (p := ⟨ga, j, none⟩) (h.o.blk (g := ga) rfl).1 _, h.p.far (p := ⟨ga, j, none⟩) (fun e => h.ne e.symm) _, by rw [bools_set]; exact h.o.set j _, h.z⟩
theorem PB.on {w6 wr wj : World} {gp ga n k cP : Nat} {bs : List Bool} (h : PB w6 wr gp ga n k cP bs) (hb : Below wr.heap.size wr wj) : PB w6 wj gp ga n k cP bs :=
  ⟨below_on h.b hb, h.p.below hb h.p.lt, h.o.below hb (Nat.le_refl _), h.z⟩
set_option maxRecDepth 100000 in
set_option maxHeartbeats 6400000 in
theorem law_bloom_ok {A B : Option Addr} {n c m d k : Nat} {xs zs : List Bool} {w : World} {S2 K2 key : Int} (h : Sb w A n c xs) (hk : Sb w B m d zs) (h0 : fltErr n k n = 0) :
    Calls Try.prog 5 #[.agg #[.int .i64 (n : Int), .int .i64 (k : Int), .slice A n c], .agg #[.int .i64 S2, .int .i64 K2, .slice B m d], .int .i64 key] w fun e w' => e = .returned (.bool true) ∧ Below w.heap.size w w' := by
  obtain ⟨a1, a2, a3, a4, _⟩ := fltErr_zero h0
  have n1 : 1 ≤ n := by omega
  have n2 : n ≤ 256 := by omega
  have k2 : k ≤ 8 := by omega
  obtain ⟨E2, hE2⟩ : ∃ E2, fltErr S2 K2 m = E2 := ⟨_, rfl⟩
  have HE2 := hide hE2
  clear hE2
  have HE := hide h0
  have HXL := hide h.blen
  have CP := hide (fun (w : World) => rplaces_ok (A := A) (n := n) (c := c) (s := n) (m := k) (key := key) (w := w) n1 n2 k2)
  have CPut := hide (fun (w : World) (h : Sb w A n c xs) => bloomPut_ok (key := key) h h0)
  have CHas := hide (fun (w : World) (h : Sb w A n c xs) => bloomHas_ok (key := key) h h0)
  have CJ := hide (fun (w : World) (h : Sb w A n c xs) (hk : Sb w B m d zs) => join_any (S2 := S2) (K2 := K2) h hk h0)
  obtain ⟨ps, hps⟩ : ∃ ps, plcTo n (keyN key) k = ps := ⟨_, rfl⟩
  have HPA := hide (fun (j : Nat) (hj : j < k) => (show ∃ p : Nat, p < n ∧ ps[j]? = some (p : Int) from ⟨_, plc_lt n1, by rw [← hps]; exact plcTo_at hj⟩))
  rw [hps] at CP CPut CHas
  obtain ⟨R, hR⟩ : ∃ R, noneTo (clearAt xs) ps k = R := ⟨_, rfl⟩
  rw [hR] at CHas
  have HR := hide hR
  clear hps hR h0 a1 a2 a3 a4
  go_enter Try.func5, Try.ntmps5
  go_wp2_with fail
  have F0 := FG.start (w := w) (cf := #[.int .i64 (n : Int), .int .i64 (k : Int), .slice A n c]) (cg := #[.int .i64 S2, .int .i64 K2, .slice B m d])
  obtain ⟨w0, hw0⟩ : ∃ w0, (w.alloc (.cells #[.int .i64 (n : Int), .int .i64 (k : Int), .slice A n c] 42)).alloc (.cells #[.int .i64 S2, .int .i64 K2, .slice B m d] 42) = w0 := ⟨_, rfl⟩
  rw [hw0] at F0 ⊢
  clear hw0
  refine (CPut.out _ (h.on F0.b)).mono ?_
  rintro e w1 ⟨AX, cX, rfl, oX, hc1⟩
  have hb1 : Below w0.heap.size w0 w1 := below_on (by repeat' (first | assumption | with_reducible exact Below.refl _ _ | with_reducible apply Below.drew | with_reducible apply below_drewN | with_reducible apply below_alloc | with_reducible refine below_set ?_ ?_ _ | (simp only [World.size_alloc, World.heap_drewN]; omega) | (simp; omega))) hc1
  have F1 := F0.on hb1
  have pf0 := F1.f.at_ (i := 0) rfl
  have pf1 := F1.f.at_ (i := 1) rfl
  have pf2 := F1.f.at_ (i := 2) rfl
  have pg0 := F1.g.at_ (i := 0) rfl
  have pg1 := F1.g.at_ (i := 1) rfl
  have pg2 := F1.g.at_ (i := 2) rfl
  have lf := F1.f.lt
  have lg := F1.g.lt
  have sX1 := oX.sl
  clear oX
  go_wp2_with fail
  refine (CHas.out _ (h.on (by have := F1.b; repeat' (first | assumption | with_reducible exact Below.refl _ _ | with_reducible apply Below.drew | with_reducible apply below_drewN | with_reducible apply below_alloc | with_reducible refine below_set ?_ ?_ _ | (simp only [World.size_alloc, World.heap_drewN]; omega) | (simp; omega))))).mono ?_
  rintro e w2 ⟨rfl, hc2⟩
  have hb2 : Below w1.heap.size w1 w2 := below_on (by repeat' (first | assumption | with_reducible exact Below.refl _ _ | with_reducible apply Below.drew | with_reducible apply below_drewN | with_reducible apply below_alloc | with_reducible refine below_set ?_ ?_ _ | (simp only [World.size_alloc, World.heap_drewN]; omega) | (simp; omega))) hc2
  have F2 := F1.on hb2
  have X2 := (Blk.new w1 42 #[.int .i64 (n : Int), .int .i64 (k : Int), .slice AX n cX]).below hc2 (Blk.new w1 42 #[.int .i64 (n : Int), .int .i64 (k : Int), .slice AX n cX]).lt
  clear F1 pf0 pf1 pf2 pg0 pg1 pg2 lf lg 
  have pf0 := F2.f.at_ (i := 0) rfl
  have pf1 := F2.f.at_ (i := 1) rfl
  have pf2 := F2.f.at_ (i := 2) rfl
  have pg0 := F2.g.at_ (i := 0) rfl
  have pg1 := F2.g.at_ (i := 1) rfl
  have pg2 := F2.g.at_ (i := 2) rfl
  have lf := F2.f.lt
  have lg := F2.g.lt
  have Xl := X2.lt
  have Xc0 := X2.at_ (i := 0) rfl
  have Xc1 := X2.at_ (i := 1) rfl
  have Xc2 := X2.at_ (i := 2) rfl
  have sX2 := sX1.on hb2
  clear sX1
  go_wp2_with fail
  refine (CJ.out _ (h.on (by have := F2.b; repeat' (first | assumption | with_reducible exact Below.refl _ _ | with_reducible apply Below.drew | with_reducible apply below_drewN | with_reducible apply below_alloc | with_reducible refine below_set ?_ ?_ _ | (simp only [World.size_alloc, World.heap_drewN]; omega) | (simp; omega)))) (hk.on (by have := F2.b; repeat' (first | assumption | with_reducible exact Below.refl _ _ | with_reducible apply Below.drew | with_reducible apply below_drewN | with_reducible apply below_alloc | with_reducible refine below_set ?_ ?_ _ | (simp only [World.size_alloc, World.heap_drewN]; omega) | (simp; omega))))).mono ?_
  rintro e w3 ⟨YS, YK, Y, yn, yc, ys, E3, rfl, sY3, hc3, hJ⟩
  have hb3 : Below w2.heap.size w2 w3 := below_on (by repeat' (first | assumption | with_reducible exact Below.refl _ _ | with_reducible apply Below.drew | with_reducible apply below_drewN | with_reducible apply below_alloc | with_reducible refine below_set ?_ ?_ _ | (simp only [World.size_alloc, World.heap_drewN]; omega) | (simp; omega))) hc3
  have F3 := F2.on hb3
  have X3 := X2.below hb3 X2.lt
  clear F2 pf0 pf1 pf2 pg0 pg1 pg2 lf lg X2 Xc0 Xc1 Xc2 Xl
  have pf0 := F3.f.at_ (i := 0) rfl
  have pf1 := F3.f.at_ (i := 1) rfl
  have pf2 := F3.f.at_ (i := 2) rfl
  have pg0 := F3.g.at_ (i := 0) rfl
  have pg1 := F3.g.at_ (i := 1) rfl
  have pg2 := F3.g.at_ (i := 2) rfl
  have lf := F3.f.lt
  have lg := F3.g.lt
  have Xl := X3.lt
  have Xc0 := X3.at_ (i := 0) rfl
  have Xc1 := X3.at_ (i := 1) rfl
  have Xc2 := X3.at_ (i := 2) rfl
  have sX3 := sX2.on hb3
  clear sX2
  have HJ := hide hJ
  clear hJ
  go_wp2_with fail
  refine (filter_is h.len_max HE.out).mono ?_
  rintro e w4 ⟨rfl, hc4⟩
  have hb4 : Below w3.heap.size w3 w4 := below_on (by repeat' (first | assumption | with_reducible exact Below.refl _ _ | with_reducible apply Below.drew | with_reducible apply below_drewN | with_reducible apply below_alloc | with_reducible refine below_set ?_ ?_ _ | (simp only [World.size_alloc, World.heap_drewN]; omega) | (simp; omega))) hc4
  have F4 := F3.on hb4
  have X4 := X3.below hb4 X3.lt
  have Y4 := (Blk.new w3 42 #[.int .i64 YS, .int .i64 YK, .slice Y yn yc]).below hc4 (Blk.new w3 42 #[.int .i64 YS, .int .i64 YK, .slice Y yn yc]).lt
  clear F3 pf0 pf1 pf2 pg0 pg1 pg2 lf lg X3 Xc0 Xc1 Xc2 Xl
  have pf0 := F4.f.at_ (i := 0) rfl
  have pf1 := F4.f.at_ (i := 1) rfl
  have pf2 := F4.f.at_ (i := 2) rfl
  have pg0 := F4.g.at_ (i := 0) rfl
  have pg1 := F4.g.at_ (i := 1) rfl
  have pg2 := F4.g.at_ (i := 2) rfl
  have lf := F4.f.lt
  have lg := F4.g.lt
  have Xl := X4.lt
  have Yl := Y4.lt
  have Xc0 := X4.at_ (i := 0) rfl
  have Xc1 := X4.at_ (i := 1) rfl
  have Xc2 := X4.at_ (i := 2) rfl
  have Yc0 := Y4.at_ (i := 0) rfl
  have Yc1 := Y4.at_ (i := 1) rfl
  have Yc2 := Y4.at_ (i := 2) rfl
  have sX4 := sX3.on hb4
  have sY4 := sY3.on hb4
  clear sX3 sY3
  go_wp2_with fail
  refine (bloomCheck_is h.len_max HE.out).mono ?_
  rintro e w5 ⟨rfl, hc5⟩
  have hb5 : Below w4.heap.size w4 w5 := below_on (by repeat' (first | assumption | with_reducible exact Below.refl _ _ | with_reducible apply Below.drew | with_reducible apply below_drewN | with_reducible apply below_alloc | with_reducible refine below_set ?_ ?_ _ | (simp only [World.size_alloc, World.heap_drewN]; omega) | (simp; omega))) hc5
  have F5 := F4.on hb5
  have X5 := X4.below hb5 X4.lt
  have Y5 := Y4.below hb5 Y4.lt
  clear F4 pf0 pf1 pf2 pg0 pg1 pg2 lf lg X4 Xc0 Xc1 Xc2 Xl Y4 Yc0 Yc1 Yc2 Yl
  have pf0 := F5.f.at_ (i := 0) rfl
  have pf1 := F5.f.at_ (i := 1) rfl
  have pf2 := F5.f.at_ (i := 2) rfl
  have pg0 := F5.g.at_ (i := 0) rfl
  have pg1 := F5.g.at_ (i := 1) rfl
  have pg2 := F5.g.at_ (i := 2) rfl
  have lf := F5.f.lt
  have lg := F5.g.lt
  have Xl := X5.lt
  have Yl := Y5.lt
  have Xc0 := X5.at_ (i := 0) rfl
  have Xc1 := X5.at_ (i := 1) rfl
  have Xc2 := X5.at_ (i := 2) rfl
  have Yc0 := Y5.at_ (i := 0) rfl
  have Yc1 := Y5.at_ (i := 1) rfl
  have Yc2 := Y5.at_ (i := 2) rfl
  have sX5 := sX4.on hb5
  have sY5 := sY4.on hb5
  clear sX4 sY4
  go_wp2_with fail
  refine (bloomCheck_is (A := none) (c := 0) (by omega) flt_zero).mono ?_
  rintro e w6 ⟨rfl, hc6⟩
  have hb6 : Below w5.heap.size w5 w6 := below_on (by repeat' (first | assumption | with_reducible exact Below.refl _ _ | with_reducible apply Below.drew | with_reducible apply below_drewN | with_reducible apply below_alloc | with_reducible refine below_set ?_ ?_ _ | (simp only [World.size_alloc, World.heap_drewN]; omega) | (simp; omega))) hc6
  have F6 := F5.on hb6
  have X6 := X5.below hb6 X5.lt
  have Y6 := Y5.below hb6 Y5.lt
  clear F5 pf0 pf1 pf2 pg0 pg1 pg2 lf lg X5 Xc0 Xc1 Xc2 Xl Y5 Yc0 Yc1 Yc2 Yl
  have pf0 := F6.f.at_ (i := 0) rfl
  have pf1 := F6.f.at_ (i := 1) rfl
  have pf2 := F6.f.at_ (i := 2) rfl
  have pg0 := F6.g.at_ (i := 0) rfl
  have pg1 := F6.g.at_ (i := 1) rfl
  have pg2 := F6.g.at_ (i := 2) rfl
  have lf := F6.f.lt
  have lg := F6.g.lt
  have Xl := X6.lt
  have Yl := Y6.lt
  have Xc0 := X6.at_ (i := 0) rfl
  have Xc1 := X6.at_ (i := 1) rfl
  have Xc2 := X6.at_ (i := 2) rfl
  have Yc0 := Y6.at_ (i := 0) rfl
  have Yc1 := Y6.at_ (i := 1) rfl
  have Yc2 := Y6.at_ (i := 2) rfl
  have sX6 := sX5.on hb6
  have sY6 := sY5.on hb6
  clear sX5 sY5
  go_upto_region 9 with fail
  have hx6 := h.on F6.b
  go_cut [14] (fun s14 wx => ∃ gp ga cP, s14 = .pointer (some ⟨gp, 0, none⟩) ∧ PB w6 wx gp ga n k cP xs)
  case first =>
    go_region_held3 (fun w' => Below w6.heap.size w6 w' ∧ w'.cell? ⟨w.heap.size, 0, none⟩ = some (.int .i64 (n : Int)) ∧ w'.cell? ⟨w.heap.size, 1, none⟩ = some (.int .i64 (k : Int)) ∧ w'.cell? ⟨w.heap.size, 2, none⟩ = some (.slice A n c)) ((refine and_below ?_ fun hk => ⟨(hk.cell (p := ⟨w.heap.size, 0, none⟩) lf).trans pf0, (hk.cell (p := ⟨w.heap.size, 1, none⟩) lf).trans pf1, (hk.cell (p := ⟨w.heap.size, 2, none⟩) lf).trans pf2⟩; repeat' (first | assumption | with_reducible exact Below.refl _ _ | with_reducible apply Below.drew | with_reducible apply below_drewN | with_reducible apply below_alloc | with_reducible refine below_set ?_ ?_ _ | (simp only [World.size_alloc, World.heap_drewN]; omega) | (simp; omega))))
      (first
        | (go_at_call 26; refine (clone_bools A n c xs _ (hx6.on (by repeat' (first | assumption | with_reducible exact Below.refl _ _ | with_reducible apply Below.drew | with_reducible apply below_drewN | with_reducible apply below_alloc | with_reducible refine below_set ?_ ?_ _ | (simp only [World.size_alloc, World.heap_drewN]; omega) | (simp; omega)))) (by omega)).mono ?_; rintro e w7 ⟨v7, rfl, hb7, AP, cP, rfl, own7⟩; have k67 : Below w6.heap.size w6 w7 := below_on (by repeat' (first | assumption | with_reducible exact Below.refl _ _ | with_reducible apply Below.drew | with_reducible apply below_drewN | with_reducible apply below_alloc | with_reducible refine below_set ?_ ?_ _ | (simp only [World.size_alloc, World.heap_drewN]; omega) | (simp; omega))) hb7; obtain ⟨bc7, bf7⟩ := bcell hb7))
    all_goals go_wp2_with fail
    all_goals go_meet
    · obtain ⟨ga, rfl, _, _⟩ := own7.addr n1
      exact ⟨_, ga, cP, rfl, ⟨by repeat' (first | assumption | with_reducible exact Below.refl _ _ | with_reducible apply Below.drew | with_reducible apply below_drewN | with_reducible apply below_alloc | with_reducible refine below_set ?_ ?_ _ | (simp only [World.size_alloc, World.heap_drewN]; omega) | (simp; omega)), Blk.new _ _ _, own7.alloc _, hb7.size⟩⟩
    · obtain ⟨ga, rfl, g1, g2⟩ := own7.addr n1
      simp only [World.size_alloc, World.drew] at g1 own7
      have bz0 := Blk.new w6.drew 42 #[.int .i64 0, .int .i64 0, .slice none 0 0]
      have bz := bz0.below hb7 bz0.lt
      rw [show w6.drew.heap.size = w6.heap.size from rfl] at bz
      have b3 := ((bz.set 0 (.int .i64 (n : Int))).set 1 (.int .i64 (k : Int))).set 2 (.slice (some ⟨ga, 0, none⟩) n cP)
      refine ⟨w6.heap.size, ga, cP, rfl, ⟨((k67.setCell (p := ⟨w6.heap.size, 0, none⟩) (Nat.le_refl _) _).setCell (p := ⟨w6.heap.size, 1, none⟩) (Nat.le_refl _) _).setCell (p := ⟨w6.heap.size, 2, none⟩) (Nat.le_refl _) _, ?_, ?_, Nat.le_refl _⟩⟩
      · simpa using b3
      · exact (((own7.low (p := ⟨w6.heap.size, 0, none⟩) (by dsimp only; omega) _).low (p := ⟨w6.heap.size, 1, none⟩) (by dsimp only; omega) _).low (p := ⟨w6.heap.size, 2, none⟩) (by dsimp only; omega) _).mono (by omega)
  case rest =>
    obtain ⟨gp, ga, cP, rfl, pb⟩ := hcut
    obtain ⟨w7, rfl⟩ : ∃ w7 : World, w7 = wc := ⟨_, rfl⟩
    have hb7 := pb.b
    have F7 := F6.on hb7
    have X7 := X6.below hb7 X6.lt
    have Y7 := Y6.below hb7 Y6.lt
    have sX7 := sX6.on hb7
    have sY7 := sY6.on hb7
    clear pf0 pf1 pf2 pg0 pg1 pg2 lf lg Xc0 Xc1 Xc2 Xl Yc0 Yc1 Yc2 Yl
    have pf0 := F7.f.at_ (i := 0) rfl
    have pf1 := F7.f.at_ (i := 1) rfl
    have pf2 := F7.f.at_ (i := 2) rfl
    have pg0 := F7.g.at_ (i := 0) rfl
    have pg1 := F7.g.at_ (i := 1) rfl
    have pg2 := F7.g.at_ (i := 2) rfl
    have lf := F7.f.lt
    have lg := F7.g.lt
    have Xl := X7.lt
    have Xc0 := X7.at_ (i := 0) rfl
    have Xc1 := X7.at_ (i := 1) rfl
    have Xc2 := X7.at_ (i := 2) rfl
    have Yl := Y7.lt
    have Yc0 := Y7.at_ (i := 0) rfl
    have Yc1 := Y7.at_ (i := 1) rfl
    have Yc2 := Y7.at_ (i := 2) rfl
    clear hx6
    go_wp2_with fail
    refine (CP.out _).mono ?_
    rintro e w8 ⟨A8, c8, rfl, o8, hb8⟩
    have pb8 := pb.on hb8
    have HPB := hide pb8
    have HO8 := hide o8
    clear pb pb8 o8 hb8 F7 X7 Y7 sX7 sY7 pf0 pf1 pf2 pg0 pg1 pg2 lf lg Xc0 Xc1 Xc2 Xl Yc0 Yc1 Yc2 Yl
    go_wp2_with fail
    go_loopw [15, 90] (fun vh vi wr => ∃ j : Nat, j ≤ k ∧ vi = .int .i64 j ∧ vh = .bool (noneTo (clearAt xs) ps j) ∧ PB w6 wr gp ga n k cP (bitsTo ps xs j) ∧ Own wr w7.heap.size 3 1 A8 k c8 (ints ps)) (fun _ i _ => k - (intOf i).toNat)
    case atStart => exact ⟨0, Nat.zero_le _, rfl, rfl, HPB.out, HO8.out⟩
    case round =>
      clear HPB HO8
      obtain ⟨j, hj, rfl, rfl, pbr, owp⟩ := hrel
      by_cases hlt : j < k
      · obtain ⟨p, hpn, hp⟩ := HPA.out j hlt
        obtain ⟨ad, x, rfl, hbk, hx, hc⟩ := owp.sl.icell hlt
        rw [hp] at hx
        injection hx with hx
        subst hx
        have Fr := F6.on pbr.b
        have pf2 := Fr.f.at_ (i := 2) rfl
        have lf := Fr.f.lt
        obtain ⟨ae, b, rfl, hbb, hxb, hcb⟩ := (h.on Fr.b).bcell hpn
        have HN := hide (bitsTo_next (bs := xs) hp)
        have hclr : clearAt xs (p : Int) = !b := by unfold clearAt; rw [Int.toNat_natCast, List.getD, hxb]; rfl
        have HS := hide (show noneTo (clearAt xs) ps (j + 1) = (noneTo (clearAt xs) ps j && b) by rw [noneTo_succ, getD_of hp, hclr, Bool.not_not])
        have hbl := bitsTo_len ps xs j
        rw [HXL.out] at hbl
        have hcp := pbr.o.cell (bools_at (show (bitsTo ps xs j)[p]? = some ((bitsTo ps xs j)[p]'(by omega)) from List.getElem?_eq_getElem (by omega)))
        have hfp := pbr.o.free p
        have pp2 := pbr.p.at_ (i := 2) rfl
        have hap := owp.apart_type pbr.o (by decide)
        clear hp hxb hclr
        obtain ⟨H, hH⟩ : ∃ H, noneTo (clearAt xs) ps j = H := ⟨_, rfl⟩
        rw [hH] at HS ⊢
        clear hH
        cases H <;> cases b
        all_goals
          go_wp2_with fail
          go_roundw
          case rel =>
            refine ⟨j + 1, by omega, by go_num, by rw [HS.out]; rfl, ?_, owp.far (p := ⟨ga, p, none⟩) (fun g hg e => hap g (by rw [hg]; rfl) (show some ga = some g from congrArg some e.symm)) _⟩
            rw [HN.out]
            exact pbr.set p true
          case measure => simp [intOf]; omega
      · obtain rfl : j = k := by omega
        rw [HR.out]
        have tR : (R != R) = false := by simp
        have hb9 := pbr.b
        have F9 := F6.on hb9
        have X9 := X6.below hb9 X6.lt
        have Y9 := Y6.below hb9 Y6.lt
        have sX9 := sX6.on hb9
        have sY9 := sY6.on hb9
        have pf0 := F9.f.at_ (i := 0) rfl
        have pf1 := F9.f.at_ (i := 1) rfl
        have pf2 := F9.f.at_ (i := 2) rfl
        have pg0 := F9.g.at_ (i := 0) rfl
        have pg1 := F9.g.at_ (i := 1) rfl
        have pg2 := F9.g.at_ (i := 2) rfl
        have lf := F9.f.lt
        have lg := F9.g.lt
        have Xl := X9.lt
        have Xc0 := X9.at_ (i := 0) rfl
        have Xc1 := X9.at_ (i := 1) rfl
        have Xc2 := X9.at_ (i := 2) rfl
        have Yl := Y9.lt
        have Yc0 := Y9.at_ (i := 0) rfl
        have Yc1 := Y9.at_ (i := 1) rfl
        have Yc2 := Y9.at_ (i := 2) rfl
        have sP := pbr.o.sl
        have pp0 := pbr.p.at_ (i := 0) rfl
        have pp1 := pbr.p.at_ (i := 1) rfl
        have pp2 := pbr.p.at_ (i := 2) rfl
        have lp := pbr.p.lt
        go_wp2_with fail
        refine (sameFilter_yes (n : Int) (j : Int) AX (some ⟨ga, 0, none⟩) n cX cP (bitsTo ps xs j) _ sX9 sP).mono ?_
        rintro e w10 ⟨rfl, hb10⟩
        have F10 := F9.on hb10
        have Y10 := Y9.below hb10 Y9.lt
        have sY10 := sY9.on hb10
        clear F9 X9 Y9 sX9 sY9 sP pp0 pp1 pp2 lp pf0 pf1 pf2 pg0 pg1 pg2 lf lg Xc0 Xc1 Xc2 Xl Yc0 Yc1 Yc2 Yl pbr owp hb9
        have pg0 := F10.g.at_ (i := 0) rfl
        have pg1 := F10.g.at_ (i := 1) rfl
        have pg2 := F10.g.at_ (i := 2) rfl
        have lf := F10.f.lt
        have lg := F10.g.lt
        go_wp2_with fail
        refine (filter_is hk.len_max HE2.out).mono ?_
        rintro e w11 ⟨rfl, hb11⟩
        have F11 := F10.on hb11
        have Y11 := Y10.below hb11 Y10.lt
        have sY11 := sY10.on hb11
        clear F10 Y10 sY10 pg0 pg1 pg2 lf lg
        have pf0 := F11.f.at_ (i := 0) rfl
        have pf1 := F11.f.at_ (i := 1) rfl
        have pf2 := F11.f.at_ (i := 2) rfl
        have pg0 := F11.g.at_ (i := 0) rfl
        have pg1 := F11.g.at_ (i := 1) rfl
        have pg2 := F11.g.at_ (i := 2) rfl
        have Yc0 := Y11.at_ (i := 0) rfl
        have Yc1 := Y11.at_ (i := 1) rfl
        have Yc2 := Y11.at_ (i := 2) rfl
        have lf := F11.f.lt
        have lg := F11.g.lt
        have Yl := Y11.lt
        have kw := F11.b
        rcases HJ.out with ⟨j0, j1, rfl, rfl, rfl, rfl, rfl, rfl⟩ | ⟨j0, rfl, j2, j3, j4, rfl, rfl, j6, rfl, j5⟩
        · clear HJ
          by_cases e2 : E2 = 0
          · have e3 : (7 : Int) = E3 ∧ ((n : Int) ≠ S2 ∨ (j : Int) ≠ K2) := by
              unfold fjErr at j0 j1
              rw [if_neg (by rw [HE.out]; simp), if_neg (by rw [HE2.out]; simpa using e2)] at j0 j1
              by_cases hs : (n : Int) ≠ S2 ∨ (j : Int) ≠ K2
              · rw [if_pos hs] at j1; exact ⟨j1.symm, hs⟩
              · rw [if_neg hs] at j0; exact absurd rfl j0
            obtain ⟨e3, e4⟩ := e3
            subst e3
            subst e2
            have key : ((n : Int) != S2) = true ∨ (((n : Int) != S2) = false ∧ ((j : Int) != K2) = true) := by
              by_cases s : (n : Int) = S2
              · right; exact ⟨by simpa using s, by rcases e4 with e4 | e4; exact absurd s e4; simpa using e4⟩
              · left; simpa using s
            clear j0 j1 e4 HE2
            rcases key with t1 | ⟨t1, t2⟩
            all_goals
              go_wp2_with fail
              refine (sameFilter_yes 0 0 none none 0 0 0 [] _ (Sl.nil _ _ _) (Sl.nil _ _ _)).mono ?_
              rintro e w12 ⟨rfl, hb12⟩
              go_wp2_with fail
              go_ret
              exact ⟨rfl, by have := below_on kw hb12; repeat' (first | assumption | with_reducible exact Below.refl _ _ | with_reducible apply Below.drew | with_reducible apply below_drewN | with_reducible apply below_alloc | with_reducible refine below_set ?_ ?_ _ | (simp only [World.size_alloc, World.heap_drewN]; omega) | (simp; omega))⟩
          · obtain rfl : E3 = E2 := by rw [j1]; unfold fjErr; rw [if_neg (by rw [HE.out]; simp), if_pos (by rw [HE2.out]; exact e2), HE2.out]
            have t1 : (E3 == 0) = false := by simpa using e2
            have t2 : (E3 != 0) = true := by simpa using e2
            clear j0 j1 e2 HE2
            go_wp2_with fail
            refine (sameFilter_yes 0 0 none none 0 0 0 [] _ (Sl.nil _ _ _) (Sl.nil _ _ _)).mono ?_
            rintro e w12 ⟨rfl, hb12⟩
            go_wp2_with fail
            go_ret
            exact ⟨rfl, by have := below_on kw hb12; repeat' (first | assumption | with_reducible exact Below.refl _ _ | with_reducible apply Below.drew | with_reducible apply below_drewN | with_reducible apply below_alloc | with_reducible refine below_set ?_ ?_ _ | (simp only [World.size_alloc, World.heap_drewN]; omega) | (simp; omega))⟩
        · clear HJ j0
          subst j4
          have j7 := j6.symm
          subst j7
          clear j6
          obtain rfl : E2 = 0 := by rw [← HE2.out, ← j5]
          subst j2
          subst j3
          clear HE2 j5
          have tn : ((n : Int) != (n : Int)) = false := by simp
          have tj : ((j : Int) != (j : Int)) = false := by simp
          go_wp2_with fail
          obtain ⟨wt, hwt⟩ : ∃ wt, w11.alloc (.cells #[.int .i64 (n : Int), .int .i64 (j : Int), .slice none 0 0] 42) = wt := ⟨_, rfl⟩
          have hbt : Below w11.heap.size w11 wt := by rw [← hwt]; repeat' (first | assumption | with_reducible exact Below.refl _ _ | with_reducible apply Below.drew | with_reducible apply below_drewN | with_reducible apply below_alloc | with_reducible refine below_set ?_ ?_ _ | (simp only [World.size_alloc, World.heap_drewN]; omega) | (simp; omega))
          have bB : Blk wt w11.heap.size 42 #[.int .i64 (n : Int), .int .i64 (j : Int), .slice none 0 0] := by rw [← hwt]; exact Blk.new _ _ _
          have HO := hide (orLst_all (zs := zs) HXL.out)
          rw [hwt]
          clear hwt
          go_loopw [160] (fun vi wr => ∃ (i : Nat) (AB : Option Addr) (cB : Nat), i ≤ n ∧ vi = .int .i64 i ∧ Below w11.heap.size w11 wr ∧ Blk wr w11.heap.size 42 #[.int .i64 (n : Int), .int .i64 (j : Int), .slice AB i cB] ∧ Own wr (w11.heap.size + 1) 4 1 AB i cB (bools (orLst xs zs i))) (fun i _ => n - (intOf i).toNat)
          case atStart => exact ⟨0, none, 0, Nat.zero_le _, rfl, hbt, bB, Own.nil _ _ _ _⟩
          case round =>
            clear hbt bB pf0 pf1 pf2 pg0 pg1 pg2 Yc0 Yc1 Yc2 lf lg Yl
            obtain ⟨i, AB, cB, hi, rfl, hbr, bB, own⟩ := hrel
            have Fr := F11.on hbr
            have pf2 := Fr.f.at_ (i := 2) rfl
            have lf := Fr.f.lt
            have hgl := bB.lt
            by_cases hlt : i < n
            · obtain ⟨ae, x, rfl, hbe, hxe, hce⟩ := (h.on F11.b).bcell hlt
              obtain ⟨af, y, rfl, hbf, hye, hcf⟩ := (hk.on F11.b).bcell hlt
              have q2 := bB.at_ (i := 2) rfl
              have u2 := bB.free 2
              have HN := hide (orLst_next hxe hye)
              have hcap := own.sl.len_max
              have hbe2 : (ae.add i).block < w11.heap.size := by rw [add_block]; exact hbe
              have hbf2 : (af.add i).block < w11.heap.size := by rw [add_block]; exact hbf
              clear pf2 lf
              have pf2 := F11.f.at_ (i := 2) rfl
              have pg2 := F11.g.at_ (i := 2) rfl
              have lf := F11.f.lt
              have lg := F11.g.lt
              clear hxe hye
              cases x
              cases y
              · go_wp2_with fail
                refine anyTill.begin (S := Till (fun w' => Below w11.heap.size w11 w' ∧ w'.cell? ⟨w.heap.size, 2, none⟩ = some (.slice (some ae) n c) ∧ w'.cell? ⟨w.heap.size + 1, 2, none⟩ = some (.slice (some af) n d) ∧ w'.cell? (ae.add i) = some (.bool false) ∧ w'.cell? (af.add i) = some (.bool false)) (fun w' => w'.cell? ⟨w11.heap.size, 2, none⟩ = some (.slice AB i cB)) [15]) (by kernel_rfl) ?_
                refine anyTill.last (i := 0) (oi := { dst := some 163, op := Op.fieldAddr 42 (Operand.tmp 18) 2, type := 0, pos := "high.go:138", after := #[], guard := none }) (v := ?_) rfl (by kernel_rfl) (by kernel_rfl) (by kernel_rfl) (fun _ _ _ h => h) (by rfl) (Or.inl ⟨by rfl, ?_⟩) ⟨by (refine and_below ?_ fun hk => ⟨(hk.cell (p := ⟨w.heap.size, 2, none⟩) lf).trans pf2, (hk.cell (p := ⟨w.heap.size + 1, 2, none⟩) lg).trans pg2, (hk.cell hbe2).trans hce, (hk.cell hbf2).trans hcf⟩; repeat' (first | assumption | with_reducible exact Below.refl _ _ | with_reducible apply Below.drew | with_reducible apply below_drewN | with_reducible apply below_alloc | with_reducible refine below_set ?_ ?_ _ | (simp only [World.size_alloc, World.heap_drewN]; omega) | (simp; omega))), fun _ => by (refine kept (B := w11.heap.size + 1) (Nat.lt_succ_self _) q2 ?_; repeat' (first | assumption | with_reducible exact Below.refl _ _ | with_reducible apply Below.drew | (with_reducible refine Below.alloc ?_ ?_ _) | (simp only [World.size_alloc, World.drew]; omega) | (simp; omega)))⟩ (fun hS => ?_)
                rotate_left
                · (intro w hSw; (try dsimp only at hSw); go_split_ands; go_simp; try with_reducible rfl)
                try simp only [Act.put, List.setIfInBounds_toArray, List.set_cons_zero, List.set_cons_succ]
                refine anyTill.soon 15 (i := 1) (oi := { dst := some 164, op := Op.load 40 (Operand.tmp 163), type := 40, pos := "high.go:138", after := #[{ on := 0, ground := Ground.data }], guard := none }) (v := ?_) rfl (by kernel_rfl) (by kernel_rfl) (by kernel_rfl) (by kernel_rfl) (by rfl) (by rfl) (fun _ _ _ h => h) (by rfl) (Or.inl ⟨by rfl, ?_⟩) hS (fun hS => ?_)
                rotate_left
                · (intro w hSw; (try dsimp only at hSw); go_split_ands; go_simp; try with_reducible rfl)
                try simp only [Act.put, List.setIfInBounds_toArray, List.set_cons_zero, List.set_cons_succ]
                refine anyTill.last (i := 2) (oi := { dst := some 165, op := Op.fieldAddr 42 (Operand.tmp 3) 2, type := 0, pos := "high.go:138", after := #[], guard := none }) (v := ?_) rfl (by kernel_rfl) (by kernel_rfl) (by kernel_rfl) (fun _ _ _ h => h) (by rfl) (Or.inl ⟨by rfl, ?_⟩) hS (fun hS => ?_)
                rotate_left
                · (intro w hSw; (try dsimp only at hSw); go_split_ands; go_simp; try with_reducible rfl)
                try simp only [Act.put, List.setIfInBounds_toArray, List.set_cons_zero, List.set_cons_succ]
                refine anyTill.last (i := 3) (oi := { dst := some 166, op := Op.load 40 (Operand.tmp 165), type := 40, pos := "high.go:138", after := #[{ on := 2, ground := Ground.data }], guard := none }) (v := ?_) rfl (by kernel_rfl) (by kernel_rfl) (by kernel_rfl) (fun _ _ _ h => h) (by rfl) (Or.inl ⟨by rfl, ?_⟩) hS (fun hS => ?_)
                rotate_left
                · (intro w hSw; (try dsimp only at hSw); go_split_ands; go_simp; try with_reducible rfl)
                try simp only [Act.put, List.setIfInBounds_toArray, List.set_cons_zero, List.set_cons_succ]
                refine anyTill.last (i := 4) (oi := { dst := some 167, op := Op.move (Operand.tmp 19), type := 3, pos := "high.go:138", after := #[], guard := none }) (v := ?_) rfl (by kernel_rfl) (by kernel_rfl) (by kernel_rfl) (fun _ _ _ h => h) (by rfl) (Or.inl ⟨by rfl, ?_⟩) hS (fun hS => ?_)
                rotate_left
                · (intro w hSw; (try dsimp only at hSw); go_split_ands; go_simp; try with_reducible rfl)
                try simp only [Act.put, List.setIfInBounds_toArray, List.set_cons_zero, List.set_cons_succ]
                refine anyTill.last (i := 5) (oi := { dst := some 168, op := Op.indexAddr 40 (Operand.tmp 166) (Operand.tmp 167), type := 0, pos := "high.go:138", after := #[{ on := 3, ground := Ground.data }, { on := 4, ground := Ground.data }], guard := none }) (v := ?_) rfl (by kernel_rfl) (by kernel_rfl) (by kernel_rfl) (fun _ _ _ h => h) (by rfl) (Or.inl ⟨by rfl, ?_⟩) hS (fun hS => ?_)
                rotate_left
                · (intro w hSw; (try dsimp only at hSw); go_split_ands; go_simp; try with_reducible rfl)
                try simp only [Act.put, List.setIfInBounds_toArray, List.set_cons_zero, List.set_cons_succ]
                refine anyTill.last (i := 6) (oi := { dst := some 169, op := Op.load 4 (Operand.tmp 168), type := 4, pos := "high.go:138", after := #[{ on := 5, ground := Ground.data }], guard := none }) (v := ?_) rfl (by kernel_rfl) (by kernel_rfl) (by kernel_rfl) (fun _ _ _ h => h) (by rfl) (Or.inl ⟨by rfl, ?_⟩) hS (fun hS => ?_)
                rotate_left
                · (intro w hSw; (try dsimp only at hSw); go_split_ands; go_simp; try with_reducible rfl)
                try simp only [Act.put, List.setIfInBounds_toArray, List.set_cons_zero, List.set_cons_succ]
                refine anyTill.last (i := 7) (oi := { dst := some 170, op := Op.move (Operand.tmp 169), type := 4, pos := "high.go:138", after := #[{ on := 6, ground := Ground.data }], guard := none }) (v := ?_) rfl (by kernel_rfl) (by kernel_rfl) (by kernel_rfl) (fun _ _ _ h => h) (by rfl) (Or.inl ⟨by rfl, ?_⟩) hS (fun hS => ?_)
                rotate_left
                · (intro w hSw; (try dsimp only at hSw); go_split_ands; go_simp; try with_reducible rfl)
                try simp only [Act.put, List.setIfInBounds_toArray, List.set_cons_zero, List.set_cons_succ]
                refine anyTill.last (i := 8) (oi := { dst := some 171, op := Op.fieldAddr 42 (Operand.tmp 4) 2, type := 0, pos := "high.go:138", after := #[{ on := 7, ground := Ground.guard }], guard := some (7, false) }) (v := ?_) rfl (by kernel_rfl) (by kernel_rfl) (by kernel_rfl) (fun _ _ _ h => h) (by rfl) (Or.inl ⟨by rfl, ?_⟩) hS (fun hS => ?_)
                rotate_left
                · (intro w hSw; (try dsimp only at hSw); go_split_ands; go_simp; try with_reducible rfl)
                try simp only [Act.put, List.setIfInBounds_toArray, List.set_cons_zero, List.set_cons_succ]
                refine anyTill.last (i := 9) (oi := { dst := some 172, op := Op.load 40 (Operand.tmp 171), type := 40, pos := "high.go:138", after := #[{ on := 8, ground := Ground.data }, { on := 7, ground := Ground.guard }], guard := some (7, false) }) (v := ?_) rfl (by kernel_rfl) (by kernel_rfl) (by kernel_rfl) (fun _ _ _ h => h) (by rfl) (Or.inl ⟨by rfl, ?_⟩) hS (fun hS => ?_)
                rotate_left
                · (intro w hSw; (try dsimp only at hSw); go_split_ands; go_simp; try with_reducible rfl)
                try simp only [Act.put, List.setIfInBounds_toArray, List.set_cons_zero, List.set_cons_succ]
                refine anyTill.last (i := 10) (oi := { dst := some 173, op := Op.move (Operand.tmp 19), type := 3, pos := "high.go:138", after := #[{ on := 7, ground := Ground.guard }], guard := some (7, false) }) (v := ?_) rfl (by kernel_rfl) (by kernel_rfl) (by kernel_rfl) (fun _ _ _ h => h) (by rfl) (Or.inl ⟨by rfl, ?_⟩) hS (fun hS => ?_)
                rotate_left
                · (intro w hSw; (try dsimp only at hSw); go_split_ands; go_simp; try with_reducible rfl)
                try simp only [Act.put, List.setIfInBounds_toArray, List.set_cons_zero, List.set_cons_succ]
                refine anyTill.last (i := 11) (oi := { dst := some 174, op := Op.indexAddr 40 (Operand.tmp 172) (Operand.tmp 173), type := 0, pos := "high.go:138", after := #[{ on := 9, ground := Ground.data }, { on := 10, ground := Ground.data }, { on := 7, ground := Ground.guard }], guard := some (7, false) }) (v := ?_) rfl (by kernel_rfl) (by kernel_rfl) (by kernel_rfl) (fun _ _ _ h => h) (by rfl) (Or.inl ⟨by rfl, ?_⟩) hS (fun hS => ?_)
                rotate_left
                · (intro w hSw; (try dsimp only at hSw); go_split_ands; go_simp; try with_reducible rfl)
                try simp only [Act.put, List.setIfInBounds_toArray, List.set_cons_zero, List.set_cons_succ]
                refine anyTill.last (i := 12) (oi := { dst := some 175, op := Op.load 4 (Operand.tmp 174), type := 4, pos := "high.go:138", after := #[{ on := 11, ground := Ground.data }, { on := 7, ground := Ground.guard }], guard := some (7, false) }) (v := ?_) rfl (by kernel_rfl) (by kernel_rfl) (by kernel_rfl) (fun _ _ _ h => h) (by rfl) (Or.inl ⟨by rfl, ?_⟩) hS (fun hS => ?_)
                rotate_left
                · (intro w hSw; (try dsimp only at hSw); go_split_ands; go_simp; try with_reducible rfl)
                try simp only [Act.put, List.setIfInBounds_toArray, List.set_cons_zero, List.set_cons_succ]
                refine anyTill.last (i := 13) (oi := { dst := some 176, op := Op.pick (Operand.tmp 170) (Operand.const (Value.bool true)) (Operand.tmp 175), type := 4, pos := "high.go:138", after := #[{ on := 7, ground := Ground.data }, { on := 12, ground := Ground.data }], guard := none }) (v := ?_) rfl (by kernel_rfl) (by kernel_rfl) (by kernel_rfl) (fun _ _ _ h => h) (by rfl) (Or.inl ⟨by rfl, ?_⟩) hS (fun hS => ?_)
                rotate_left
                · (intro w hSw; (try dsimp only at hSw); go_split_ands; go_simp; try with_reducible rfl)
                try simp only [Act.put, List.setIfInBounds_toArray, List.set_cons_zero, List.set_cons_succ]
                refine anyTill.ready (rs := [14]) (by kernel_rfl) (by simp) ?_
                refine AllTill.cons (o := { dst := some 177, op := Op.buildSlice 40 1 #[(0, Operand.tmp 176)], type := 40, pos := "high.go:138", after := #[{ on := 13, ground := Ground.data }], guard := none }) rfl (fun K hK => ?_) AllTill.nil
                · clear hS
                  go_simp
                  refine hK.out _ _ ⟨by (refine and_below ?_ fun hk => ⟨(hk.cell (p := ⟨w.heap.size, 2, none⟩) lf).trans pf2, (hk.cell (p := ⟨w.heap.size + 1, 2, none⟩) lg).trans pg2, (hk.cell hbe2).trans hce, (hk.cell hbf2).trans hcf⟩; repeat' (first | assumption | with_reducible exact Below.refl _ _ | with_reducible apply Below.drew | with_reducible apply below_drewN | with_reducible apply below_alloc | with_reducible refine below_set ?_ ?_ _ | (simp only [World.size_alloc, World.heap_drewN]; omega) | (simp; omega))), fun _ => by (refine kept (B := w11.heap.size + 1) (Nat.lt_succ_self _) q2 ?_; repeat' (first | assumption | with_reducible exact Below.refl _ _ | with_reducible apply Below.drew | (with_reducible refine Below.alloc ?_ ?_ _) | (simp only [World.size_alloc, World.drew]; omega) | (simp; omega)))⟩ (fun hS => ?_)
                  clear hK K
                  try simp only [Act.put, List.setIfInBounds_toArray, List.set_cons_zero, List.set_cons_succ]
                  refine anyTill.ready (rs := [15]) (by kernel_rfl) (by simp) ?_
                  refine AllTill.cons (o := { dst := some 178, op := Op.call { callee := Callee.builtin Builtin.append, args := #[Operand.tmp 164, Operand.tmp 177], argTypes := #[40, 40] }, type := 40, pos := "high.go:138", after := #[{ on := 1, ground := Ground.data }, { on := 14, ground := Ground.data }, { on := 7, ground := Ground.chain }], guard := none }) rfl (fun K hK => ?_) AllTill.nil
                  · clear hS
                    refine step_append_one T_bool (base := w11.heap.size + 1) (A := AB) (xs := bools (orLst xs zs i)) (v := .bool false) (by rfl) (.tmp 164) (.tmp 177) (by rfl) (by rfl) (by rfl) ?_ ?_ rfl ?_ ?_ ?_ ?_
                    · (first | with_reducible exact (own.alloc _).drew | with_reducible exact own.drew.alloc _ | with_reducible exact own.alloc _ | with_reducible exact own.drew)
                    · (first | with_reducible exact at_new _ _ | with_reducible exact at_newd _ _)
                    · simp only [maxLen]; omega
                    · omega
                    · simp only [World.drew, World.size_alloc]; omega
                    intro A3 c3 w3 ap
                    have own3 := ap.own
                    have hk3 : Below (w11.heap.size + 1) wr w3 := Below.trans (by repeat' (first | assumption | with_reducible exact Below.refl _ _ | with_reducible apply Below.drew | (with_reducible refine Below.alloc ?_ ?_ _) | (simp only [World.size_alloc, World.drew]; omega) | (simp; omega))) ap.below
                    have q2n := (hk3.cell (p := ⟨w11.heap.size, 2, none⟩) (Nat.lt_succ_self _)).trans q2
                    have u2n := (hk3.frozen (p := ⟨w11.heap.size, 2, none⟩) (Nat.lt_succ_self _)).trans u2
                    have hb3 : Below w11.heap.size w11 w3 := hbr.trans (hk3.mono (Nat.le_succ _))
                    refine hK.out _ _ (Till.over (by rfl) (by (refine and_below ?_ fun hk => ⟨(hk.cell (p := ⟨w.heap.size, 2, none⟩) lf).trans pf2, (hk.cell (p := ⟨w.heap.size + 1, 2, none⟩) lg).trans pg2, (hk.cell hbe2).trans hce, (hk.cell hbf2).trans hcf⟩; repeat' (first | assumption | with_reducible exact Below.refl _ _ | with_reducible apply Below.drew | with_reducible apply below_drewN | with_reducible apply below_alloc | with_reducible refine below_set ?_ ?_ _ | (simp only [World.size_alloc, World.heap_drewN]; omega) | (simp; omega))))) (fun hS => ?_)
                    clear hK K
                    try simp only [Act.put, List.setIfInBounds_toArray, List.set_cons_zero, List.set_cons_succ]
                    refine anyTill.last (i := 16) (oi := { dst := some 179, op := Op.fieldAddr 42 (Operand.tmp 18) 2, type := 0, pos := "high.go:138", after := #[{ on := 0, ground := Ground.phase }, { on := 1, ground := Ground.phase }, { on := 2, ground := Ground.phase }, { on := 3, ground := Ground.phase }, { on := 4, ground := Ground.phase }, { on := 5, ground := Ground.phase }, { on := 6, ground := Ground.phase }, { on := 7, ground := Ground.phase }, { on := 8, ground := Ground.phase }, { on := 9, ground := Ground.phase }, { on := 10, ground := Ground.phase }, { on := 11, ground := Ground.phase }, { on := 12, ground := Ground.phase }, { on := 13, ground := Ground.phase }, { on := 14, ground := Ground.phase }, { on := 15, ground := Ground.phase }], guard := none }) (v := ?_) rfl (by kernel_rfl) (by kernel_rfl) (by kernel_rfl) (fun _ _ _ h => h) (by rfl) (Or.inl ⟨by rfl, ?_⟩) hS (fun hS => ?_)
                    rotate_left
                    · (intro w hSw; (try dsimp only at hSw); go_split_ands; go_simp; try with_reducible rfl)
                    try simp only [Act.put, List.setIfInBounds_toArray, List.set_cons_zero, List.set_cons_succ]
                    refine anyTill.ready (rs := [17]) (by kernel_rfl) (by simp) ?_
                    refine AllTill.cons (o := { dst := none, op := Op.store 40 (Operand.tmp 179) (Operand.tmp 178), type := 0, pos := "high.go:138", after := #[{ on := 16, ground := Ground.data }, { on := 15, ground := Ground.data }, { on := 15, ground := Ground.chain }, { on := 0, ground := Ground.phase }, { on := 1, ground := Ground.phase }, { on := 2, ground := Ground.phase }, { on := 3, ground := Ground.phase }, { on := 4, ground := Ground.phase }, { on := 5, ground := Ground.phase }, { on := 6, ground := Ground.phase }, { on := 7, ground := Ground.phase }, { on := 8, ground := Ground.phase }, { on := 9, ground := Ground.phase }, { on := 10, ground := Ground.phase }, { on := 11, ground := Ground.phase }, { on := 12, ground := Ground.phase }, { on := 13, ground := Ground.phase }, { on := 14, ground := Ground.phase }, { on := 15, ground := Ground.phase }], guard := none }) rfl (fun K hK => ?_) AllTill.nil
                    · clear hS
                      go_simp
                      refine hK.out _ _ (Till.over (by rfl) (by (refine and_below ?_ fun hk => ⟨(hk.cell (p := ⟨w.heap.size, 2, none⟩) lf).trans pf2, (hk.cell (p := ⟨w.heap.size + 1, 2, none⟩) lg).trans pg2, (hk.cell hbe2).trans hce, (hk.cell hbf2).trans hcf⟩; repeat' (first | assumption | with_reducible exact Below.refl _ _ | with_reducible apply Below.drew | with_reducible apply below_drewN | with_reducible apply below_alloc | with_reducible refine below_set ?_ ?_ _ | (simp only [World.size_alloc, World.heap_drewN]; omega) | (simp; omega))))) (fun hS => ?_)
                      clear hK K
                      try simp only [Act.put, List.setIfInBounds_toArray, List.set_cons_zero, List.set_cons_succ]
                      refine anyTill.fin (by kernel_rfl) ?_ _
                      go_wp2_with fail
                      go_roundw
                      case rel =>
                        refine ⟨i + 1, A3, c3, by omega, by go_num, hb3.setCell (p := ⟨w11.heap.size, 2, none⟩) (Nat.le_refl _) _, ?_, ?_⟩
                        · have hb := (bB.below hk3 (Nat.lt_succ_self _)).set 2 (.slice A3 (i + 1) c3)
                          simpa using hb
                        · rw [HN.out, bools_append]
                          exact own3.low (p := ⟨w11.heap.size, 2, none⟩) (Nat.lt_succ_self _) _
                      case measure => simp [intOf]; omega
              · go_wp2_with fail
                refine anyTill.begin (S := Till (fun w' => Below w11.heap.size w11 w' ∧ w'.cell? ⟨w.heap.size, 2, none⟩ = some (.slice (some ae) n c) ∧ w'.cell? ⟨w.heap.size + 1, 2, none⟩ = some (.slice (some af) n d) ∧ w'.cell? (ae.add i) = some (.bool false) ∧ w'.cell? (af.add i) = some (.bool true)) (fun w' => w'.cell? ⟨w11.heap.size, 2, none⟩ = some (.slice AB i cB)) [15]) (by kernel_rfl) ?_
                refine anyTill.last (i := 0) (oi := { dst := some 163, op := Op.fieldAddr 42 (Operand.tmp 18) 2, type := 0, pos := "high.go:138", after := #[], guard := none }) (v := ?_) rfl (by kernel_rfl) (by kernel_rfl) (by kernel_rfl) (fun _ _ _ h => h) (by rfl) (Or.inl ⟨by rfl, ?_⟩) ⟨by (refine and_below ?_ fun hk => ⟨(hk.cell (p := ⟨w.heap.size, 2, none⟩) lf).trans pf2, (hk.cell (p := ⟨w.heap.size + 1, 2, none⟩) lg).trans pg2, (hk.cell hbe2).trans hce, (hk.cell hbf2).trans hcf⟩; repeat' (first | assumption | with_reducible exact Below.refl _ _ | with_reducible apply Below.drew | with_reducible apply below_drewN | with_reducible apply below_alloc | with_reducible refine below_set ?_ ?_ _ | (simp only [World.size_alloc, World.heap_drewN]; omega) | (simp; omega))), fun _ => by (refine kept (B := w11.heap.size + 1) (Nat.lt_succ_self _) q2 ?_; repeat' (first | assumption | with_reducible exact Below.refl _ _ | with_reducible apply Below.drew | (with_reducible refine Below.alloc ?_ ?_ _) | (simp only [World.size_alloc, World.drew]; omega) | (simp; omega)))⟩ (fun hS => ?_)
                rotate_left
                · (intro w hSw; (try dsimp only at hSw); go_split_ands; go_simp; try with_reducible rfl)
                try simp only [Act.put, List.setIfInBounds_toArray, List.set_cons_zero, List.set_cons_succ]
                refine anyTill.soon 15 (i := 1) (oi := { dst := some 164, op := Op.load 40 (Operand.tmp 163), type := 40, pos := "high.go:138", after := #[{ on := 0, ground := Ground.data }], guard := none }) (v := ?_) rfl (by kernel_rfl) (by kernel_rfl) (by kernel_rfl) (by kernel_rfl) (by rfl) (by rfl) (fun _ _ _ h => h) (by rfl) (Or.inl ⟨by rfl, ?_⟩) hS (fun hS => ?_)
                rotate_left
                · (intro w hSw; (try dsimp only at hSw); go_split_ands; go_simp; try with_reducible rfl)
                try simp only [Act.put, List.setIfInBounds_toArray, List.set_cons_zero, List.set_cons_succ]
                refine anyTill.last (i := 2) (oi := { dst := some 165, op := Op.fieldAddr 42 (Operand.tmp 3) 2, type := 0, pos := "high.go:138", after := #[], guard := none }) (v := ?_) rfl (by kernel_rfl) (by kernel_rfl) (by kernel_rfl) (fun _ _ _ h => h) (by rfl) (Or.inl ⟨by rfl, ?_⟩) hS (fun hS => ?_)
                rotate_left
                · (intro w hSw; (try dsimp only at hSw); go_split_ands; go_simp; try with_reducible rfl)
                try simp only [Act.put, List.setIfInBounds_toArray, List.set_cons_zero, List.set_cons_succ]
                refine anyTill.last (i := 3) (oi := { dst := some 166, op := Op.load 40 (Operand.tmp 165), type := 40, pos := "high.go:138", after := #[{ on := 2, ground := Ground.data }], guard := none }) (v := ?_) rfl (by kernel_rfl) (by kernel_rfl) (by kernel_rfl) (fun _ _ _ h => h) (by rfl) (Or.inl ⟨by rfl, ?_⟩) hS (fun hS => ?_)
                rotate_left
                · (intro w hSw; (try dsimp only at hSw); go_split_ands; go_simp; try with_reducible rfl)
                try simp only [Act.put, List.setIfInBounds_toArray, List.set_cons_zero, List.set_cons_succ]
                refine anyTill.last (i := 4) (oi := { dst := some 167, op := Op.move (Operand.tmp 19), type := 3, pos := "high.go:138", after := #[], guard := none }) (v := ?_) rfl (by kernel_rfl) (by kernel_rfl) (by kernel_rfl) (fun _ _ _ h => h) (by rfl) (Or.inl ⟨by rfl, ?_⟩) hS (fun hS => ?_)
                rotate_left
                · (intro w hSw; (try dsimp only at hSw); go_split_ands; go_simp; try with_reducible rfl)
                try simp only [Act.put, List.setIfInBounds_toArray, List.set_cons_zero, List.set_cons_succ]
                refine anyTill.last (i := 5) (oi := { dst := some 168, op := Op.indexAddr 40 (Operand.tmp 166) (Operand.tmp 167), type := 0, pos := "high.go:138", after := #[{ on := 3, ground := Ground.data }, { on := 4, ground := Ground.data }], guard := none }) (v := ?_) rfl (by kernel_rfl) (by kernel_rfl) (by kernel_rfl) (fun _ _ _ h => h) (by rfl) (Or.inl ⟨by rfl, ?_⟩) hS (fun hS => ?_)
                rotate_left
                · (intro w hSw; (try dsimp only at hSw); go_split_ands; go_simp; try with_reducible rfl)
                try simp only [Act.put, List.setIfInBounds_toArray, List.set_cons_zero, List.set_cons_succ]
                refine anyTill.last (i := 6) (oi := { dst := some 169, op := Op.load 4 (Operand.tmp 168), type := 4, pos := "high.go:138", after := #[{ on := 5, ground := Ground.data }], guard := none }) (v := ?_) rfl (by kernel_rfl) (by kernel_rfl) (by kernel_rfl) (fun _ _ _ h => h) (by rfl) (Or.inl ⟨by rfl, ?_⟩) hS (fun hS => ?_)
                rotate_left
                · (intro w hSw; (try dsimp only at hSw); go_split_ands; go_simp; try with_reducible rfl)
                try simp only [Act.put, List.setIfInBounds_toArray, List.set_cons_zero, List.set_cons_succ]
                refine anyTill.last (i := 7) (oi := { dst := some 170, op := Op.move (Operand.tmp 169), type := 4, pos := "high.go:138", after := #[{ on := 6, ground := Ground.data }], guard := none }) (v := ?_) rfl (by kernel_rfl) (by kernel_rfl) (by kernel_rfl) (fun _ _ _ h => h) (by rfl) (Or.inl ⟨by rfl, ?_⟩) hS (fun hS => ?_)
                rotate_left
                · (intro w hSw; (try dsimp only at hSw); go_split_ands; go_simp; try with_reducible rfl)
                try simp only [Act.put, List.setIfInBounds_toArray, List.set_cons_zero, List.set_cons_succ]
                refine anyTill.last (i := 8) (oi := { dst := some 171, op := Op.fieldAddr 42 (Operand.tmp 4) 2, type := 0, pos := "high.go:138", after := #[{ on := 7, ground := Ground.guard }], guard := some (7, false) }) (v := ?_) rfl (by kernel_rfl) (by kernel_rfl) (by kernel_rfl) (fun _ _ _ h => h) (by rfl) (Or.inl ⟨by rfl, ?_⟩) hS (fun hS => ?_)
                rotate_left
                · (intro w hSw; (try dsimp only at hSw); go_split_ands; go_simp; try with_reducible rfl)
                try simp only [Act.put, List.setIfInBounds_toArray, List.set_cons_zero, List.set_cons_succ]
                refine anyTill.last (i := 9) (oi := { dst := some 172, op := Op.load 40 (Operand.tmp 171), type := 40, pos := "high.go:138", after := #[{ on := 8, ground := Ground.data }, { on := 7, ground := Ground.guard }], guard := some (7, false) }) (v := ?_) rfl (by kernel_rfl) (by kernel_rfl) (by kernel_rfl) (fun _ _ _ h => h) (by rfl) (Or.inl ⟨by rfl, ?_⟩) hS (fun hS => ?_)
                rotate_left
                · (intro w hSw; (try dsimp only at hSw); go_split_ands; go_simp; try with_reducible rfl)
                try simp only [Act.put, List.setIfInBounds_toArray, List.set_cons_zero, List.set_cons_succ]
                refine anyTill.last (i := 10) (oi := { dst := some 173, op := Op.move (Operand.tmp 19), type := 3, pos := "high.go:138", after := #[{ on := 7, ground := Ground.guard }], guard := some (7, false) }) (v := ?_) rfl (by kernel_rfl) (by kernel_rfl) (by kernel_rfl) (fun _ _ _ h => h) (by rfl) (Or.inl ⟨by rfl, ?_⟩) hS (fun hS => ?_)
                rotate_left
                · (intro w hSw; (try dsimp only at hSw); go_split_ands; go_simp; try with_reducible rfl)
                try simp only [Act.put, List.setIfInBounds_toArray, List.set_cons_zero, List.set_cons_succ]
                refine anyTill.last (i := 11) (oi := { dst := some 174, op := Op.indexAddr 40 (Operand.tmp 172) (Operand.tmp 173), type := 0, pos := "high.go:138", after := #[{ on := 9, ground := Ground.data }, { on := 10, ground := Ground.data }, { on := 7, ground := Ground.guard }], guard := some (7, false) }) (v := ?_) rfl (by kernel_rfl) (by kernel_rfl) (by kernel_rfl) (fun _ _ _ h => h) (by rfl) (Or.inl ⟨by rfl, ?_⟩) hS (fun hS => ?_)
                rotate_left
                · (intro w hSw; (try dsimp only at hSw); go_split_ands; go_simp; try with_reducible rfl)
                try simp only [Act.put, List.setIfInBounds_toArray, List.set_cons_zero, List.set_cons_succ]
                refine anyTill.last (i := 12) (oi := { dst := some 175, op := Op.load 4 (Operand.tmp 174), type := 4, pos := "high.go:138", after := #[{ on := 11, ground := Ground.data }, { on := 7, ground := Ground.guard }], guard := some (7, false) }) (v := ?_) rfl (by kernel_rfl) (by kernel_rfl) (by kernel_rfl) (fun _ _ _ h => h) (by rfl) (Or.inl ⟨by rfl, ?_⟩) hS (fun hS => ?_)
                rotate_left
                · (intro w hSw; (try dsimp only at hSw); go_split_ands; go_simp; try with_reducible rfl)
                try simp only [Act.put, List.setIfInBounds_toArray, List.set_cons_zero, List.set_cons_succ]
                refine anyTill.last (i := 13) (oi := { dst := some 176, op := Op.pick (Operand.tmp 170) (Operand.const (Value.bool true)) (Operand.tmp 175), type := 4, pos := "high.go:138", after := #[{ on := 7, ground := Ground.data }, { on := 12, ground := Ground.data }], guard := none }) (v := ?_) rfl (by kernel_rfl) (by kernel_rfl) (by kernel_rfl) (fun _ _ _ h => h) (by rfl) (Or.inl ⟨by rfl, ?_⟩) hS (fun hS => ?_)
                rotate_left
                · (intro w hSw; (try dsimp only at hSw); go_split_ands; go_simp; try with_reducible rfl)
                try simp only [Act.put, List.setIfInBounds_toArray, List.set_cons_zero, List.set_cons_succ]
                refine anyTill.ready (rs := [14]) (by kernel_rfl) (by simp) ?_
                refine AllTill.cons (o := { dst := some 177, op := Op.buildSlice 40 1 #[(0, Operand.tmp 176)], type := 40, pos := "high.go:138", after := #[{ on := 13, ground := Ground.data }], guard := none }) rfl (fun K hK => ?_) AllTill.nil
                · clear hS
                  go_simp
                  refine hK.out _ _ ⟨by (refine and_below ?_ fun hk => ⟨(hk.cell (p := ⟨w.heap.size, 2, none⟩) lf).trans pf2, (hk.cell (p := ⟨w.heap.size + 1, 2, none⟩) lg).trans pg2, (hk.cell hbe2).trans hce, (hk.cell hbf2).trans hcf⟩; repeat' (first | assumption | with_reducible exact Below.refl _ _ | with_reducible apply Below.drew | with_reducible apply below_drewN | with_reducible apply below_alloc | with_reducible refine below_set ?_ ?_ _ | (simp only [World.size_alloc, World.heap_drewN]; omega) | (simp; omega))), fun _ => by (refine kept (B := w11.heap.size + 1) (Nat.lt_succ_self _) q2 ?_; repeat' (first | assumption | with_reducible exact Below.refl _ _ | with_reducible apply Below.drew | (with_reducible refine Below.alloc ?_ ?_ _) | (simp only [World.size_alloc, World.drew]; omega) | (simp; omega)))⟩ (fun hS => ?_)
                  clear hK K
                  try simp only [Act.put, List.setIfInBounds_toArray, List.set_cons_zero, List.set_cons_succ]
                  refine anyTill.ready (rs := [15]) (by kernel_rfl) (by simp) ?_
                  refine AllTill.cons (o := { dst := some 178, op := Op.call { callee := Callee.builtin Builtin.append, args := #[Operand.tmp 164, Operand.tmp 177], argTypes := #[40, 40] }, type := 40, pos := "high.go:138", after := #[{ on := 1, ground := Ground.data }, { on := 14, ground := Ground.data }, { on := 7, ground := Ground.chain }], guard := none }) rfl (fun K hK => ?_) AllTill.nil
                  · clear hS
                    refine step_append_one T_bool (base := w11.heap.size + 1) (A := AB) (xs := bools (orLst xs zs i)) (v := .bool true) (by rfl) (.tmp 164) (.tmp 177) (by rfl) (by rfl) (by rfl) ?_ ?_ rfl ?_ ?_ ?_ ?_
                    · (first | with_reducible exact (own.alloc _).drew | with_reducible exact own.drew.alloc _ | with_reducible exact own.alloc _ | with_reducible exact own.drew)
                    · (first | with_reducible exact at_new _ _ | with_reducible exact at_newd _ _)
                    · simp only [maxLen]; omega
                    · omega
                    · simp only [World.drew, World.size_alloc]; omega
                    intro A3 c3 w3 ap
                    have own3 := ap.own
                    have hk3 : Below (w11.heap.size + 1) wr w3 := Below.trans (by repeat' (first | assumption | with_reducible exact Below.refl _ _ | with_reducible apply Below.drew | (with_reducible refine Below.alloc ?_ ?_ _) | (simp only [World.size_alloc, World.drew]; omega) | (simp; omega))) ap.below
                    have q2n := (hk3.cell (p := ⟨w11.heap.size, 2, none⟩) (Nat.lt_succ_self _)).trans q2
                    have u2n := (hk3.frozen (p := ⟨w11.heap.size, 2, none⟩) (Nat.lt_succ_self _)).trans u2
                    have hb3 : Below w11.heap.size w11 w3 := hbr.trans (hk3.mono (Nat.le_succ _))
                    refine hK.out _ _ (Till.over (by rfl) (by (refine and_below ?_ fun hk => ⟨(hk.cell (p := ⟨w.heap.size, 2, none⟩) lf).trans pf2, (hk.cell (p := ⟨w.heap.size + 1, 2, none⟩) lg).trans pg2, (hk.cell hbe2).trans hce, (hk.cell hbf2).trans hcf⟩; repeat' (first | assumption | with_reducible exact Below.refl _ _ | with_reducible apply Below.drew | with_reducible apply below_drewN | with_reducible apply below_alloc | with_reducible refine below_set ?_ ?_ _ | (simp only [World.size_alloc, World.heap_drewN]; omega) | (simp; omega))))) (fun hS => ?_)
                    clear hK K
                    try simp only [Act.put, List.setIfInBounds_toArray, List.set_cons_zero, List.set_cons_succ]
                    refine anyTill.last (i := 16) (oi := { dst := some 179, op := Op.fieldAddr 42 (Operand.tmp 18) 2, type := 0, pos := "high.go:138", after := #[{ on := 0, ground := Ground.phase }, { on := 1, ground := Ground.phase }, { on := 2, ground := Ground.phase }, { on := 3, ground := Ground.phase }, { on := 4, ground := Ground.phase }, { on := 5, ground := Ground.phase }, { on := 6, ground := Ground.phase }, { on := 7, ground := Ground.phase }, { on := 8, ground := Ground.phase }, { on := 9, ground := Ground.phase }, { on := 10, ground := Ground.phase }, { on := 11, ground := Ground.phase }, { on := 12, ground := Ground.phase }, { on := 13, ground := Ground.phase }, { on := 14, ground := Ground.phase }, { on := 15, ground := Ground.phase }], guard := none }) (v := ?_) rfl (by kernel_rfl) (by kernel_rfl) (by kernel_rfl) (fun _ _ _ h => h) (by rfl) (Or.inl ⟨by rfl, ?_⟩) hS (fun hS => ?_)
                    rotate_left
                    · (intro w hSw; (try dsimp only at hSw); go_split_ands; go_simp; try with_reducible rfl)
                    try simp only [Act.put, List.setIfInBounds_toArray, List.set_cons_zero, List.set_cons_succ]
                    refine anyTill.ready (rs := [17]) (by kernel_rfl) (by simp) ?_
                    refine AllTill.cons (o := { dst := none, op := Op.store 40 (Operand.tmp 179) (Operand.tmp 178), type := 0, pos := "high.go:138", after := #[{ on := 16, ground := Ground.data }, { on := 15, ground := Ground.data }, { on := 15, ground := Ground.chain }, { on := 0, ground := Ground.phase }, { on := 1, ground := Ground.phase }, { on := 2, ground := Ground.phase }, { on := 3, ground := Ground.phase }, { on := 4, ground := Ground.phase }, { on := 5, ground := Ground.phase }, { on := 6, ground := Ground.phase }, { on := 7, ground := Ground.phase }, { on := 8, ground := Ground.phase }, { on := 9, ground := Ground.phase }, { on := 10, ground := Ground.phase }, { on := 11, ground := Ground.phase }, { on := 12, ground := Ground.phase }, { on := 13, ground := Ground.phase }, { on := 14, ground := Ground.phase }, { on := 15, ground := Ground.phase }], guard := none }) rfl (fun K hK => ?_) AllTill.nil
                    · clear hS
                      go_simp
                      refine hK.out _ _ (Till.over (by rfl) (by (refine and_below ?_ fun hk => ⟨(hk.cell (p := ⟨w.heap.size, 2, none⟩) lf).trans pf2, (hk.cell (p := ⟨w.heap.size + 1, 2, none⟩) lg).trans pg2, (hk.cell hbe2).trans hce, (hk.cell hbf2).trans hcf⟩; repeat' (first | assumption | with_reducible exact Below.refl _ _ | with_reducible apply Below.drew | with_reducible apply below_drewN | with_reducible apply below_alloc | with_reducible refine below_set ?_ ?_ _ | (simp only [World.size_alloc, World.heap_drewN]; omega) | (simp; omega))))) (fun hS => ?_)
                      clear hK K
                      try simp only [Act.put, List.setIfInBounds_toArray, List.set_cons_zero, List.set_cons_succ]
                      refine anyTill.fin (by kernel_rfl) ?_ _
                      go_wp2_with fail
                      go_roundw
                      case rel =>
                        refine ⟨i + 1, A3, c3, by omega, by go_num, hb3.setCell (p := ⟨w11.heap.size, 2, none⟩) (Nat.le_refl _) _, ?_, ?_⟩
                        · have hb := (bB.below hk3 (Nat.lt_succ_self _)).set 2 (.slice A3 (i + 1) c3)
                          simpa using hb
                        · rw [HN.out, bools_append]
                          exact own3.low (p := ⟨w11.heap.size, 2, none⟩) (Nat.lt_succ_self _) _
                      case measure => simp [intOf]; omega
              · go_wp2_with fail
                refine anyTill.begin (S := Till (fun w' => Below w11.heap.size w11 w' ∧ w'.cell? ⟨w.heap.size, 2, none⟩ = some (.slice (some ae) n c) ∧ w'.cell? ⟨w.heap.size + 1, 2, none⟩ = some (.slice (some af) n d) ∧ w'.cell? (ae.add i) = some (.bool true)) (fun w' => w'.cell? ⟨w11.heap.size, 2, none⟩ = some (.slice AB i cB)) [15]) (by kernel_rfl) ?_
                refine anyTill.last (i := 0) (oi := { dst := some 163, op := Op.fieldAddr 42 (Operand.tmp 18) 2, type := 0, pos := "high.go:138", after := #[], guard := none }) (v := ?_) rfl (by kernel_rfl) (by kernel_rfl) (by kernel_rfl) (fun _ _ _ h => h) (by rfl) (Or.inl ⟨by rfl, ?_⟩) ⟨by (refine and_below ?_ fun hk => ⟨(hk.cell (p := ⟨w.heap.size, 2, none⟩) lf).trans pf2, (hk.cell (p := ⟨w.heap.size + 1, 2, none⟩) lg).trans pg2, (hk.cell hbe2).trans hce⟩; repeat' (first | assumption | with_reducible exact Below.refl _ _ | with_reducible apply Below.drew | with_reducible apply below_drewN | with_reducible apply below_alloc | with_reducible refine below_set ?_ ?_ _ | (simp only [World.size_alloc, World.heap_drewN]; omega) | (simp; omega))), fun _ => by (refine kept (B := w11.heap.size + 1) (Nat.lt_succ_self _) q2 ?_; repeat' (first | assumption | with_reducible exact Below.refl _ _ | with_reducible apply Below.drew | (with_reducible refine Below.alloc ?_ ?_ _) | (simp only [World.size_alloc, World.drew]; omega) | (simp; omega)))⟩ (fun hS => ?_)
                rotate_left
                · (intro w hSw; (try dsimp only at hSw); go_split_ands; go_simp; try with_reducible rfl)
                try simp only [Act.put, List.setIfInBounds_toArray, List.set_cons_zero, List.set_cons_succ]
                refine anyTill.soon 15 (i := 1) (oi := { dst := some 164, op := Op.load 40 (Operand.tmp 163), type := 40, pos := "high.go:138", after := #[{ on := 0, ground := Ground.data }], guard := none }) (v := ?_) rfl (by kernel_rfl) (by kernel_rfl) (by kernel_rfl) (by kernel_rfl) (by rfl) (by rfl) (fun _ _ _ h => h) (by rfl) (Or.inl ⟨by rfl, ?_⟩) hS (fun hS => ?_)
                rotate_left
                · (intro w hSw; (try dsimp only at hSw); go_split_ands; go_simp; try with_reducible rfl)
                try simp only [Act.put, List.setIfInBounds_toArray, List.set_cons_zero, List.set_cons_succ]
                refine anyTill.last (i := 2) (oi := { dst := some 165, op := Op.fieldAddr 42 (Operand.tmp 3) 2, type := 0, pos := "high.go:138", after := #[], guard := none }) (v := ?_) rfl (by kernel_rfl) (by kernel_rfl) (by kernel_rfl) (fun _ _ _ h => h) (by rfl) (Or.inl ⟨by rfl, ?_⟩) hS (fun hS => ?_)
                rotate_left
                · (intro w hSw; (try dsimp only at hSw); go_split_ands; go_simp; try with_reducible rfl)
                try simp only [Act.put, List.setIfInBounds_toArray, List.set_cons_zero, List.set_cons_succ]
                refine anyTill.last (i := 3) (oi := { dst := some 166, op := Op.load 40 (Operand.tmp 165), type := 40, pos := "high.go:138", after := #[{ on := 2, ground := Ground.data }], guard := none }) (v := ?_) rfl (by kernel_rfl) (by kernel_rfl) (by kernel_rfl) (fun _ _ _ h => h) (by rfl) (Or.inl ⟨by rfl, ?_⟩) hS (fun hS => ?_)
                rotate_left
                · (intro w hSw; (try dsimp only at hSw); go_split_ands; go_simp; try with_reducible rfl)
                try simp only [Act.put, List.setIfInBounds_toArray, List.set_cons_zero, List.set_cons_succ]
                refine anyTill.last (i := 4) (oi := { dst := some 167, op := Op.move (Operand.tmp 19), type := 3, pos := "high.go:138", after := #[], guard := none }) (v := ?_) rfl (by kernel_rfl) (by kernel_rfl) (by kernel_rfl) (fun _ _ _ h => h) (by rfl) (Or.inl ⟨by rfl, ?_⟩) hS (fun hS => ?_)
                rotate_left
                · (intro w hSw; (try dsimp only at hSw); go_split_ands; go_simp; try with_reducible rfl)
                try simp only [Act.put, List.setIfInBounds_toArray, List.set_cons_zero, List.set_cons_succ]
                refine anyTill.last (i := 5) (oi := { dst := some 168, op := Op.indexAddr 40 (Operand.tmp 166) (Operand.tmp 167), type := 0, pos := "high.go:138", after := #[{ on := 3, ground := Ground.data }, { on := 4, ground := Ground.data }], guard := none }) (v := ?_) rfl (by kernel_rfl) (by kernel_rfl) (by kernel_rfl) (fun _ _ _ h => h) (by rfl) (Or.inl ⟨by rfl, ?_⟩) hS (fun hS => ?_)
                rotate_left
                · (intro w hSw; (try dsimp only at hSw); go_split_ands; go_simp; try with_reducible rfl)
                try simp only [Act.put, List.setIfInBounds_toArray, List.set_cons_zero, List.set_cons_succ]
                refine anyTill.last (i := 6) (oi := { dst := some 169, op := Op.load 4 (Operand.tmp 168), type := 4, pos := "high.go:138", after := #[{ on := 5, ground := Ground.data }], guard := none }) (v := ?_) rfl (by kernel_rfl) (by kernel_rfl) (by kernel_rfl) (fun _ _ _ h => h) (by rfl) (Or.inl ⟨by rfl, ?_⟩) hS (fun hS => ?_)
                rotate_left
                · (intro w hSw; (try dsimp only at hSw); go_split_ands; go_simp; try with_reducible rfl)
                try simp only [Act.put, List.setIfInBounds_toArray, List.set_cons_zero, List.set_cons_succ]
                refine anyTill.last (i := 7) (oi := { dst := some 170, op := Op.move (Operand.tmp 169), type := 4, pos := "high.go:138", after := #[{ on := 6, ground := Ground.data }], guard := none }) (v := ?_) rfl (by kernel_rfl) (by kernel_rfl) (by kernel_rfl) (fun _ _ _ h => h) (by rfl) (Or.inl ⟨by rfl, ?_⟩) hS (fun hS => ?_)
                rotate_left
                · (intro w hSw; (try dsimp only at hSw); go_split_ands; go_simp; try with_reducible rfl)
                try simp only [Act.put, List.setIfInBounds_toArray, List.set_cons_zero, List.set_cons_succ]
                refine anyTill.last (i := 8) (oi := { dst := some 171, op := Op.fieldAddr 42 (Operand.tmp 4) 2, type := 0, pos := "high.go:138", after := #[{ on := 7, ground := Ground.guard }], guard := some (7, false) }) (v := _) rfl (by kernel_rfl) (by kernel_rfl) (by kernel_rfl) (fun _ _ _ h => h) (by rfl) (Or.inr ⟨by rfl, rfl⟩) hS (fun hS => ?_)
                try simp only [Act.put, List.setIfInBounds_toArray, List.set_cons_zero, List.set_cons_succ]
                refine anyTill.last (i := 9) (oi := { dst := some 172, op := Op.load 40 (Operand.tmp 171), type := 40, pos := "high.go:138", after := #[{ on := 8, ground := Ground.data }, { on := 7, ground := Ground.guard }], guard := some (7, false) }) (v := _) rfl (by kernel_rfl) (by kernel_rfl) (by kernel_rfl) (fun _ _ _ h => h) (by rfl) (Or.inr ⟨by rfl, rfl⟩) hS (fun hS => ?_)
                try simp only [Act.put, List.setIfInBounds_toArray, List.set_cons_zero, List.set_cons_succ]
                refine anyTill.last (i := 10) (oi := { dst := some 173, op := Op.move (Operand.tmp 19), type := 3, pos := "high.go:138", after := #[{ on := 7, ground := Ground.guard }], guard := some (7, false) }) (v := _) rfl (by kernel_rfl) (by kernel_rfl) (by kernel_rfl) (fun _ _ _ h => h) (by rfl) (Or.inr ⟨by rfl, rfl⟩) hS (fun hS => ?_)
                try simp only [Act.put, List.setIfInBounds_toArray, List.set_cons_zero, List.set_cons_succ]
                refine anyTill.last (i := 11) (oi := { dst := some 174, op := Op.indexAddr 40 (Operand.tmp 172) (Operand.tmp 173), type := 0, pos := "high.go:138", after := #[{ on := 9, ground := Ground.data }, { on := 10, ground := Ground.data }, { on := 7, ground := Ground.guard }], guard := some (7, false) }) (v := _) rfl (by kernel_rfl) (by kernel_rfl) (by kernel_rfl) (fun _ _ _ h => h) (by rfl) (Or.inr ⟨by rfl, rfl⟩) hS (fun hS => ?_)
                try simp only [Act.put, List.setIfInBounds_toArray, List.set_cons_zero, List.set_cons_succ]
                refine anyTill.last (i := 12) (oi := { dst := some 175, op := Op.load 4 (Operand.tmp 174), type := 4, pos := "high.go:138", after := #[{ on := 11, ground := Ground.data }, { on := 7, ground := Ground.guard }], guard := some (7, false) }) (v := _) rfl (by kernel_rfl) (by kernel_rfl) (by kernel_rfl) (fun _ _ _ h => h) (by rfl) (Or.inr ⟨by rfl, rfl⟩) hS (fun hS => ?_)
                try simp only [Act.put, List.setIfInBounds_toArray, List.set_cons_zero, List.set_cons_succ]
                refine anyTill.last (i := 13) (oi := { dst := some 176, op := Op.pick (Operand.tmp 170) (Operand.const (Value.bool true)) (Operand.tmp 175), type := 4, pos := "high.go:138", after := #[{ on := 7, ground := Ground.data }, { on := 12, ground := Ground.data }], guard := none }) (v := ?_) rfl (by kernel_rfl) (by kernel_rfl) (by kernel_rfl) (fun _ _ _ h => h) (by rfl) (Or.inl ⟨by rfl, ?_⟩) hS (fun hS => ?_)
                rotate_left
                · (intro w hSw; (try dsimp only at hSw); go_split_ands; go_simp; try with_reducible rfl)
                try simp only [Act.put, List.setIfInBounds_toArray, List.set_cons_zero, List.set_cons_succ]
                refine anyTill.ready (rs := [14]) (by kernel_rfl) (by simp) ?_
                refine AllTill.cons (o := { dst := some 177, op := Op.buildSlice 40 1 #[(0, Operand.tmp 176)], type := 40, pos := "high.go:138", after := #[{ on := 13, ground := Ground.data }], guard := none }) rfl (fun K hK => ?_) AllTill.nil
                · clear hS
                  go_simp
                  refine hK.out _ _ ⟨by (refine and_below ?_ fun hk => ⟨(hk.cell (p := ⟨w.heap.size, 2, none⟩) lf).trans pf2, (hk.cell (p := ⟨w.heap.size + 1, 2, none⟩) lg).trans pg2, (hk.cell hbe2).trans hce⟩; repeat' (first | assumption | with_reducible exact Below.refl _ _ | with_reducible apply Below.drew | with_reducible apply below_drewN | with_reducible apply below_alloc | with_reducible refine below_set ?_ ?_ _ | (simp only [World.size_alloc, World.heap_drewN]; omega) | (simp; omega))), fun _ => by (refine kept (B := w11.heap.size + 1) (Nat.lt_succ_self _) q2 ?_; repeat' (first | assumption | with_reducible exact Below.refl _ _ | with_reducible apply Below.drew | (with_reducible refine Below.alloc ?_ ?_ _) | (simp only [World.size_alloc, World.drew]; omega) | (simp; omega)))⟩ (fun hS => ?_)
                  clear hK K
                  try simp only [Act.put, List.setIfInBounds_toArray, List.set_cons_zero, List.set_cons_succ]
                  refine anyTill.ready (rs := [15]) (by kernel_rfl) (by simp) ?_
                  refine AllTill.cons (o := { dst := some 178, op := Op.call { callee := Callee.builtin Builtin.append, args := #[Operand.tmp 164, Operand.tmp 177], argTypes := #[40, 40] }, type := 40, pos := "high.go:138", after := #[{ on := 1, ground := Ground.data }, { on := 14, ground := Ground.data }, { on := 7, ground := Ground.chain }], guard := none }) rfl (fun K hK => ?_) AllTill.nil
                  · clear hS
                    refine step_append_one T_bool (base := w11.heap.size + 1) (A := AB) (xs := bools (orLst xs zs i)) (v := .bool true) (by rfl) (.tmp 164) (.tmp 177) (by rfl) (by rfl) (by rfl) ?_ ?_ rfl ?_ ?_ ?_ ?_
                    · (first | with_reducible exact (own.alloc _).drew | with_reducible exact own.drew.alloc _ | with_reducible exact own.alloc _ | with_reducible exact own.drew)
                    · (first | with_reducible exact at_new _ _ | with_reducible exact at_newd _ _)
                    · simp only [maxLen]; omega
                    · omega
                    · simp only [World.drew, World.size_alloc]; omega
                    intro A3 c3 w3 ap
                    have own3 := ap.own
                    have hk3 : Below (w11.heap.size + 1) wr w3 := Below.trans (by repeat' (first | assumption | with_reducible exact Below.refl _ _ | with_reducible apply Below.drew | (with_reducible refine Below.alloc ?_ ?_ _) | (simp only [World.size_alloc, World.drew]; omega) | (simp; omega))) ap.below
                    have q2n := (hk3.cell (p := ⟨w11.heap.size, 2, none⟩) (Nat.lt_succ_self _)).trans q2
                    have u2n := (hk3.frozen (p := ⟨w11.heap.size, 2, none⟩) (Nat.lt_succ_self _)).trans u2
                    have hb3 : Below w11.heap.size w11 w3 := hbr.trans (hk3.mono (Nat.le_succ _))
                    refine hK.out _ _ (Till.over (by rfl) (by (refine and_below ?_ fun hk => ⟨(hk.cell (p := ⟨w.heap.size, 2, none⟩) lf).trans pf2, (hk.cell (p := ⟨w.heap.size + 1, 2, none⟩) lg).trans pg2, (hk.cell hbe2).trans hce⟩; repeat' (first | assumption | with_reducible exact Below.refl _ _ | with_reducible apply Below.drew | with_reducible apply below_drewN | with_reducible apply below_alloc | with_reducible refine below_set ?_ ?_ _ | (simp only [World.size_alloc, World.heap_drewN]; omega) | (simp; omega))))) (fun hS => ?_)
                    clear hK K
                    try simp only [Act.put, List.setIfInBounds_toArray, List.set_cons_zero, List.set_cons_succ]
                    refine anyTill.last (i := 16) (oi := { dst := some 179, op := Op.fieldAddr 42 (Operand.tmp 18) 2, type := 0, pos := "high.go:138", after := #[{ on := 0, ground := Ground.phase }, { on := 1, ground := Ground.phase }, { on := 2, ground := Ground.phase }, { on := 3, ground := Ground.phase }, { on := 4, ground := Ground.phase }, { on := 5, ground := Ground.phase }, { on := 6, ground := Ground.phase }, { on := 7, ground := Ground.phase }, { on := 8, ground := Ground.phase }, { on := 9, ground := Ground.phase }, { on := 10, ground := Ground.phase }, { on := 11, ground := Ground.phase }, { on := 12, ground := Ground.phase }, { on := 13, ground := Ground.phase }, { on := 14, ground := Ground.phase }, { on := 15, ground := Ground.phase }], guard := none }) (v := ?_) rfl (by kernel_rfl) (by kernel_rfl) (by kernel_rfl) (fun _ _ _ h => h) (by rfl) (Or.inl ⟨by rfl, ?_⟩) hS (fun hS => ?_)
                    rotate_left
                    · (intro w hSw; (try dsimp only at hSw); go_split_ands; go_simp; try with_reducible rfl)
                    try simp only [Act.put, List.setIfInBounds_toArray, List.set_cons_zero, List.set_cons_succ]
                    refine anyTill.ready (rs := [17]) (by kernel_rfl) (by simp) ?_
                    refine AllTill.cons (o := { dst := none, op := Op.store 40 (Operand.tmp 179) (Operand.tmp 178), type := 0, pos := "high.go:138", after := #[{ on := 16, ground := Ground.data }, { on := 15, ground := Ground.data }, { on := 15, ground := Ground.chain }, { on := 0, ground := Ground.phase }, { on := 1, ground := Ground.phase }, { on := 2, ground := Ground.phase }, { on := 3, ground := Ground.phase }, { on := 4, ground := Ground.phase }, { on := 5, ground := Ground.phase }, { on := 6, ground := Ground.phase }, { on := 7, ground := Ground.phase }, { on := 8, ground := Ground.phase }, { on := 9, ground := Ground.phase }, { on := 10, ground := Ground.phase }, { on := 11, ground := Ground.phase }, { on := 12, ground := Ground.phase }, { on := 13, ground := Ground.phase }, { on := 14, ground := Ground.phase }, { on := 15, ground := Ground.phase }], guard := none }) rfl (fun K hK => ?_) AllTill.nil
                    · clear hS
                      go_simp
                      refine hK.out _ _ (Till.over (by rfl) (by (refine and_below ?_ fun hk => ⟨(hk.cell (p := ⟨w.heap.size, 2, none⟩) lf).trans pf2, (hk.cell (p := ⟨w.heap.size + 1, 2, none⟩) lg).trans pg2, (hk.cell hbe2).trans hce⟩; repeat' (first | assumption | with_reducible exact Below.refl _ _ | with_reducible apply Below.drew | with_reducible apply below_drewN | with_reducible apply below_alloc | with_reducible refine below_set ?_ ?_ _ | (simp only [World.size_alloc, World.heap_drewN]; omega) | (simp; omega))))) (fun hS => ?_)
                      clear hK K
                      try simp only [Act.put, List.setIfInBounds_toArray, List.set_cons_zero, List.set_cons_succ]
                      refine anyTill.fin (by kernel_rfl) ?_ _
                      go_wp2_with fail
                      go_roundw
                      case rel =>
                        refine ⟨i + 1, A3, c3, by omega, by go_num, hb3.setCell (p := ⟨w11.heap.size, 2, none⟩) (Nat.le_refl _) _, ?_, ?_⟩
                        · have hb := (bB.below hk3 (Nat.lt_succ_self _)).set 2 (.slice A3 (i + 1) c3)
                          simpa using hb
                        · rw [HN.out, bools_append]
                          exact own3.low (p := ⟨w11.heap.size, 2, none⟩) (Nat.lt_succ_self _) _
                      case measure => simp [intOf]; omega
            · obtain rfl : i = n := by omega
              have sY12 := sY11.on hbr
              rw [HO.out] at sY12
              have Y12 := Y11.below hbr Y11.lt
              have Yc0 := Y12.at_ (i := 0) rfl
              have Yc1 := Y12.at_ (i := 1) rfl
              have Yc2 := Y12.at_ (i := 2) rfl
              have Yl := Y12.lt
              have Bc0 := bB.at_ (i := 0) rfl
              have Bc1 := bB.at_ (i := 1) rfl
              have Bc2 := bB.at_ (i := 2) rfl
              go_wp2_with fail
              refine (sameFilter_yes (i : Int) (j : Int) Y AB i yc cB (orLst xs zs i) _ sY12 own.sl).mono ?_
              rintro e w13 ⟨rfl, hb13⟩
              go_wp2_with fail
              go_ret
              exact ⟨rfl, by have := below_on Fr.b hb13; repeat' (first | assumption | with_reducible exact Below.refl _ _ | with_reducible apply Below.drew | with_reducible apply below_drewN | with_reducible apply below_alloc | with_reducible refine below_set ?_ ?_ _ | (simp only [World.size_alloc, World.heap_drewN]; omega) | (simp; omega))⟩
theorem law_bloom (S K : Int) (A : Option Addr) (n c : Nat) (xs : List Bool) (S2 K2 : Int) (B : Option Addr) (m d : Nat) (zs : List Bool) (key : Int) (w : World) (h : Sb w A n c xs) (hk : Sb w B m d zs) :
    Calls Try.prog 5 #[.agg #[.int .i64 S, .int .i64 K, .slice A n c], .agg #[.int .i64 S2, .int .i64 K2, .slice B m d], .int .i64 key] w fun e w' => e = .returned (.bool true) ∧ Below w.heap.size w w' := by
  by_cases h0 : fltErr S K n = 0
  · obtain ⟨a1, a2, a3, a4, a5⟩ := fltErr_zero h0
    obtain ⟨k, rfl⟩ : ∃ k : Nat, K = (k : Int) := ⟨K.toNat, by omega⟩
    subst a5
    exact law_bloom_ok h hk h0
  · exact law_bloom_bad h hk h0
end Go.Proofs.Ytjmkejindmgckaa
