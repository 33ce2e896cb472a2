/-
  alias.Shares: the walk. Conditions: the two slices read as lists of numbers.
-/
import Derived.Test.YtgejpinepkockaaAlias3
import Derived.BigRegion
namespace Go.Proofs.Ytgejpinepkockaa
open Go.RowKit

def shareTo (all : Int) (n : Nat) (own rest : List Int) : Nat → List Int
  | 0 => List.replicate n 0
  | k + 1 => inc (shareTo all n own rest k) k (rest.getD k 0).toNat (own.getD k 0) (all - own.getD k 0)
theorem shareTo_len (all : Int) (n : Nat) (own rest : List Int) : ∀ k, (shareTo all n own rest k).length = n
  | 0 => by simp [shareTo]
  | k + 1 => by rw [shareTo, inc_len, shareTo_len all n own rest k]
theorem shareTo_inB {all : Int} {n : Nat} {own rest : List Int} (ho : own.length = n) (hr : rest.length = n) (hok : okTo (cellOk all n own rest) n = true) : ∀ k, k ≤ n → InB (k * all) (shareTo all n own rest k)
  | 0, _ => by intro x hx; simp [shareTo] at hx; obtain ⟨_, rfl⟩ := hx; simp
  | k + 1, hk => by
    have ih := shareTo_inB ho hr hok k (by omega)
    have hx := getD_at (l := own) (k := k) (by omega)
    have hy := getD_at (l := rest) (k := k) (by omega)
    have hc := cellOk_true hx hy (okTo_at n hok (by omega))
    have h1 := inc_inB (i := k) (r := (rest.getD k 0).toNat) (o := own.getD k 0) (d := all - own.getD k 0) (c := all) ih (by omega) (by omega) (by omega)
    have e : ((k + 1 : Nat) : Int) * all = k * all + all := by rw [Int.natCast_add, Int.add_mul]; simp
    rw [e]
    exact h1

section
variable {all : Int} {A1 A2 : Option Addr} {n1 c1 n2 c2 : Nat} {own rest : List Int} {w : World} {E : Int}
set_option maxHeartbeats 800000 in
theorem shares_bad (h1 : Si w A1 n1 c1 own) (h2 : Si w A2 n2 c2 rest) (h : aliasErr all n1 n2 own rest = E) (h0 : ¬ E = 0) :
    Calls Try.prog 25 #[.agg #[.int .i64 all, .slice A1 n1 c1, .slice A2 n2 c2]] w fun e w' => e = .returned (.tuple #[.slice none 0 0, .int .i64 E]) ∧ Below w.heap.size w w' := by
  have t1 : (E != 0) = true := by simpa using h0
  have H := hide h
  clear h h0
  go_enter Try.func25, Try.ntmps25
  go_wp2_with fail
  refine (aliasCheck_is (h1.on (by repeat' (first | assumption | with_reducible exact Below.refl _ _ | with_reducible apply Below.drew | with_reducible apply below_drewN | with_reducible apply below_alloc | with_reducible refine below_set ?_ ?_ _ | (simp only [World.size_alloc, World.heap_drewN]; omega) | (simp; omega)))) (h2.on (by repeat' (first | assumption | with_reducible exact Below.refl _ _ | with_reducible apply Below.drew | with_reducible apply below_drewN | with_reducible apply below_alloc | with_reducible refine below_set ?_ ?_ _ | (simp only [World.size_alloc, World.heap_drewN]; omega) | (simp; omega)))) H.out).mono ?_
  rintro e w1 ⟨rfl, hb1⟩
  have hw1 : Below w.heap.size w w1 := below_on (by repeat' (first | assumption | with_reducible exact Below.refl _ _ | with_reducible apply Below.drew | with_reducible apply below_drewN | with_reducible apply below_alloc | with_reducible refine below_set ?_ ?_ _ | (simp only [World.size_alloc, World.heap_drewN]; omega) | (simp; omega))) hb1
  go_wp2_with fail
  go_ret2
  exact ⟨rfl, hw1⟩

def SharesRet (w : World) (n : Nat) (zs : List Int) (e : Ending) (w' : World) : Prop :=
  ∃ A c, e = .returned (.tuple #[.slice A n c, .int .i64 0]) ∧ Own w' w.heap.size 3 1 A n c (ints zs) ∧ Below w.heap.size w w'

set_option maxRecDepth 20000 in
set_option maxHeartbeats 1600000 in
theorem shares_ok (h1 : Si w A1 n1 c1 own) (h2 : Si w A2 n2 c2 rest) (h : aliasErr all n1 n2 own rest = 0) :
    Calls Try.prog 25 #[.agg #[.int .i64 all, .slice A1 n1 c1, .slice A2 n2 c2]] w (SharesRet w n1 (shareTo all n1 own rest n1)) := by
  obtain ⟨g1, g2, g3, g4, g5, g6⟩ := aliasErr_zero h
  have g2' := g2.symm
  subst g2'
  have HB := hide (shareTo_inB (all := all) h1.ilen h2.ilen g6)
  have HOK := hide g6
  have pb0 := Blk.new w 40 #[.int .i64 all, .slice A1 n1 c1, .slice A2 n1 c2]
  have hm := h1.len_max
  have H := hide h
  clear h g6 g2
  go_enter Try.func25, Try.ntmps25
  go_wp2_with fail
  refine (aliasCheck_is (h1.on (by repeat' (first | assumption | with_reducible exact Below.refl _ _ | with_reducible apply Below.drew | with_reducible apply below_drewN | with_reducible apply below_alloc | with_reducible refine below_set ?_ ?_ _ | (simp only [World.size_alloc, World.heap_drewN]; omega) | (simp; omega)))) (h2.on (by repeat' (first | assumption | with_reducible exact Below.refl _ _ | with_reducible apply Below.drew | with_reducible apply below_drewN | with_reducible apply below_alloc | with_reducible refine below_set ?_ ?_ _ | (simp only [World.size_alloc, World.heap_drewN]; omega) | (simp; omega)))) H.out).mono ?_
  rintro e w1 ⟨rfl, hb1⟩
  have hw1 : Below w.heap.size w w1 := below_on (by repeat' (first | assumption | with_reducible exact Below.refl _ _ | with_reducible apply Below.drew | with_reducible apply below_drewN | with_reducible apply below_alloc | with_reducible refine below_set ?_ ?_ _ | (simp only [World.size_alloc, World.heap_drewN]; omega) | (simp; omega))) hb1
  have pb1 := pb0.below hb1 pb0.lt
  have p0 := pb1.at_ (i := 0) rfl
  have p1 := pb1.at_ (i := 1) rfl
  have p2 := pb1.at_ (i := 2) rfl
  go_wp2_with (at_make; refine wpList_make_sl T_int rfl rfl _ _ rfl (by rfl) (by rfl) (by omega) (by simp only [maxLen]; omega) ?_; intro w2 own2 hb2; have pb2 := pb1.below hb2 pb1.lt; have p1 := pb2.at_ (i := 1) rfl)
  have hw2 : Below w.heap.size w w2 := below_on hw1 hb2
  have z1 := hw1.size
  rw [ints_zero] at own2
  go_loopw [20] (fun i wr => ∃ k : Nat, k ≤ n1 ∧ i = .int .i64 k ∧ Blk wr w.heap.size 40 #[.int .i64 all, .slice A1 n1 c1, .slice A2 n1 c2] ∧ Own wr w1.heap.size 3 1 (some ⟨w1.heap.size, 0, none⟩) n1 n1 (ints (shareTo all n1 own rest k)) ∧ Below w1.heap.size w1 wr) (fun i _ => n1 - (intOf i).toNat)
  case atStart => exact ⟨0, Nat.zero_le _, rfl, pb2, own2, hb2⟩
  case round =>
    obtain ⟨k, hk, rfl, pb, hown, hb⟩ := hrel
    have hwr : Below w.heap.size w wr := below_on hw1 hb
    have hlb := pb1.lt
    clear p0 p1 p2 pb2 own2 hb2 hw2
    have p0 := pb.at_ (i := 0) rfl
    have p1 := pb.at_ (i := 1) rfl
    have p2 := pb.at_ (i := 2) rfl
    by_cases hlt : k < n1
    · obtain ⟨ad, o, rfl, hbo, ho, hco⟩ := (h1.on hwr).icell hlt
      obtain ⟨ae, r, rfl, hbr, hr, hcr⟩ := (h2.on hwr).icell hlt
      have hbo' : ad.block < w.heap.size := by obtain ⟨ad', e, hh, _⟩ := h1.at_ (by omega); injection e with e; subst e; exact hh
      have hbr' : ae.block < w.heap.size := by obtain ⟨ad', e, hh, _⟩ := h2.at_ (by omega); injection e with e; subst e; exact hh
      obtain ⟨o1, o2, r1, r2⟩ := cellOk_true ho hr (okTo_at n1 HOK.out hlt)
      obtain ⟨rn, rfl⟩ := Int.eq_ofNat_of_zero_le r1
      have hrn : rn < n1 := by omega
      have hsl := shareTo_len all n1 own rest k
      obtain ⟨x, hx⟩ : ∃ x, (shareTo all n1 own rest k)[k]? = some x := ⟨_, List.getElem?_eq_getElem (by omega)⟩
      obtain ⟨y, hy⟩ : ∃ y, ((shareTo all n1 own rest k).set k (x + o))[rn]? = some y := ⟨_, List.getElem?_eq_getElem (by simp; omega)⟩
      have hB := HB.out k (by omega)
      have hka : (k : Int) * all ≤ 1600000000000000 := by
        have := Int.mul_le_mul (show (k : Int) ≤ 40 by omega) g5 (by omega) (by omega)
        omega
      have hx2 := hB.at_ hx
      have hy2 : 0 ≤ y ∧ y ≤ 2000000000000000 := by
        by_cases e : k = rn
        · subst e
          rw [List.getElem?_set_self (by omega)] at hy
          injection hy with hy
          omega
        · rw [List.getElem?_set_ne e] at hy
          have := hB.at_ hy
          omega
      obtain ⟨x1, x2⟩ := hx2
      have x3 : x ≤ 1600000000000000 := by omega
      obtain ⟨y1, y2⟩ := hy2
      have HN := hide (show shareTo all n1 own rest (k + 1) = ((shareTo all n1 own rest k).set k (x + o)).set rn (y + (all - o)) by
        rw [shareTo, getD_of ho, getD_of hr, Int.toNat_natCast]; exact inc_sets hx (by omega) hy)
      have cx := hown.cell (ints_at hx)
      have fx := hown.free k
      have hown2 := hown.set k (.int .i64 (x + o))
      rw [← ints_set] at hown2
      have cy := hown2.cell (ints_at hy)
      have fy := hown2.free rn
      have hcr2 : (wr.setCell ⟨w1.heap.size, k, none⟩ (.int .i64 (x + o))).cell? (ae.add k) = some (.int .i64 rn) := by
        rw [World.cell?_setCell_other _ _ _ _ (fun e => by have := congrArg Addr.block e; rw [add_block] at this; simp at this; omega)]; exact hcr
      have ne1 : ¬ w.heap.size = w1.heap.size := by omega
      have ne2 : ¬ w1.heap.size = w.heap.size := by omega
      have s1 : IntKind.i64.wrap (all - o) = all - o := IntWalk.i64_in _ (by omega)
      have s2 : IntKind.i64.wrap (y + (all - o)) = y + (all - o) := IntWalk.i64_in _ (by omega)
      clear ho hr hx hy hB hka x2 hsl
      go_wp2
      go_region
      all_goals go_wp2
      go_roundw
      case rel =>
        refine ⟨k + 1, by omega, by go_num, ?_, ?_, by repeat' (first | assumption | with_reducible exact Below.refl _ _ | with_reducible apply Below.drew | with_reducible apply below_drewN | with_reducible apply below_alloc | with_reducible refine below_set ?_ ?_ _ | (simp only [World.size_alloc, World.heap_drewN]; omega) | (simp; omega))⟩
        · exact ((pb.far (by dsimp only; omega) _).far (by dsimp only; omega) _).drew
        · rw [HN.out, ints_set]
          exact (hown2.set rn _).drew
      case measure => simp [intOf]; omega
    · obtain rfl : k = n1 := by omega
      go_wp2
      go_ret2
      exact ⟨_, _, rfl, hown.mono hw1.size, hwr⟩
end
end Go.Proofs.Ytgejpinepkockaa
