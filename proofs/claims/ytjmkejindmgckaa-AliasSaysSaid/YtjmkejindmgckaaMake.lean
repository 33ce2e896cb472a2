/-
  alias.Make: the walk. Condition: the slice reads as a list of numbers.
-/
import Derived.Test.YtjmkejindmgckaaWeights
import Derived.Test.YtjmkejindmgckaaClone
import Derived.Test.YtjmkejindmgckaaOwn2
import Derived.BigRegion
import Derived.Outline
import Derived.Deep.DeepCutAuto
namespace Go.Proofs.Ytjmkejindmgckaa
open Go.RowKit

theorem run_make_ints {n : Nat} (hn : n ≤ 1000000) (W : World) : (Instr.makeSlice 22 (.int .i64 (n : Int)) (.int .i64 (n : Int))).run Try.prog W = .ok (.slice (some ⟨W.heap.size, 0, none⟩) n n) (W.alloc (.cells (ints (List.replicate n 0)).toArray 3)) := by
  obtain ⟨i, hi, hz, hsz, hby⟩ := info_parts T_int.info
  have h := run_make (P := Try.prog) W 22 3 i (.int .i64 0) T_int.ul hi hz .i64 .i64 (n : Int) (n : Int) (by omega) (by omega) (by rw [hby]; omega) (by omega)
  have hc : madeCells (Value.int .i64 0).cells (n * 1) = (ints (List.replicate n 0)).toArray := by
    apply Array.ext'
    rw [show (Value.int .i64 0).cells = #[.int .i64 0] from rfl, Nat.mul_one, toList_madeCells_one, ints_zero]
  rw [h, Int.toNat_natCast, hsz, hc]

/-- The columns' numbers, the top last. -/
def tops (l : List Bit) : List Int := (l.map fun p => (p.1 : Int)).reverse
theorem tops_cons (p : Bit) (l : List Bit) : tops (p :: l) = tops l ++ [(p.1 : Int)] := by simp [tops]
theorem tops_len (l : List Bit) : (tops l).length = l.length := by simp [tops]
theorem tops_last (p : Bit) (l : List Bit) : (tops (p :: l))[l.length]? = some (p.1 : Int) := by
  rw [tops_cons, List.getElem?_append_right (by rw [tops_len]; exact Nat.le_refl _), tops_len, Nat.sub_self]; rfl
/-- The table that is being made, and what remains of the columns. -/
structure Mk (w : World) (b0 B gb gO gR gL n : Nat) (S : Int) (own rest left : List Int) : Prop where
  pb : Blk w gb 24 #[.int .i64 S, .slice (some ⟨gO, 0, none⟩) n n, .slice (some ⟨gR, 0, none⟩) n n]
  oO : Own w b0 3 1 (some ⟨gO, 0, none⟩) n n (ints own)
  oR : Own w b0 3 1 (some ⟨gR, 0, none⟩) n n (ints rest)
  oL : Own w b0 3 1 (some ⟨gL, 0, none⟩) n n (ints left)
  lt : gb < B ∧ gO < B ∧ gR < B ∧ gL < B
  ne : gO ≠ gR ∧ gO ≠ gL ∧ gR ≠ gL
  nb : gO ≠ gb ∧ gR ≠ gb ∧ gL ≠ gb
  le : b0 ≤ gb ∧ b0 ≤ gO ∧ b0 ≤ gR ∧ b0 ≤ gL
section
variable {w w' : World} {b0 B gb gO gR gL n : Nat} {S : Int} {own rest left : List Int}
theorem Mk.drewN (h : Mk w b0 B gb gO gR gL n S own rest left) (q : Nat) : Mk (w.drewN q) b0 B gb gO gR gL n S own rest left := ⟨h.pb, h.oO, h.oR, h.oL, h.lt, h.ne, h.nb, h.le⟩
theorem Mk.drew (h : Mk w b0 B gb gO gR gL n S own rest left) : Mk w.drew b0 B gb gO gR gL n S own rest left := ⟨h.pb, h.oO, h.oR, h.oL, h.lt, h.ne, h.nb, h.le⟩
theorem Own.low_below {base e size n c : Nat} {g : Nat} {xs : List Value} (h : Own w base e size (some ⟨g, 0, none⟩) n c xs) (hb : Below B w w') (hg : g < B) : Own w' base e size (some ⟨g, 0, none⟩) n c xs := by
  refine ⟨h.1, ?_⟩
  rcases h.2 with hn | ⟨g', cap, cur, hv, hgb, hh, r⟩
  · exact .inl hn
  · injection hv with h1 h2 h3
    injection h1 with h1
    injection h1 with h1
    subst h1
    exact .inr ⟨g, cap, cur, by rw [h3], hgb, (hb.block g hg).trans hh, r⟩
theorem Mk.below (h : Mk w b0 B gb gO gR gL n S own rest left) (hb : Below B w w') : Mk w' b0 B gb gO gR gL n S own rest left :=
  ⟨h.pb.below hb h.lt.1, h.oO.low_below hb h.lt.2.1, h.oR.low_below hb h.lt.2.2.1, h.oL.low_below hb h.lt.2.2.2, h.lt, h.ne, h.nb, h.le⟩
theorem far_of {g k : Nat} (h : g ≠ k) (j : Nat) : ∀ g', (some (⟨g, 0, none⟩ : Addr)) = some ⟨g', 0, none⟩ → g' ≠ (⟨k, j, none⟩ : Addr).block := by
  intro g' hg
  injection hg with hg
  injection hg with hg
  subst hg
  exact h
theorem Mk.setL (h : Mk w b0 B gb gO gR gL n S own rest left) (k : Nat) (x : Int) : Mk (w.setCell ⟨gL, k, none⟩ (.int .i64 x)) b0 B gb gO gR gL n S own rest (left.set k x) :=
  ⟨h.pb.far (p := ⟨gL, k, none⟩) (Ne.symm h.nb.2.2) _, h.oO.far (far_of h.ne.2.1 k) _, h.oR.far (far_of h.ne.2.2 k) _, by rw [ints_set]; exact h.oL.set k _, h.lt, h.ne, h.nb, h.le⟩
theorem Mk.setO (h : Mk w b0 B gb gO gR gL n S own rest left) (k : Nat) (x : Int) : Mk (w.setCell ⟨gO, k, none⟩ (.int .i64 x)) b0 B gb gO gR gL n S (own.set k x) rest left :=
  ⟨h.pb.far (p := ⟨gO, k, none⟩) (Ne.symm h.nb.1) _, by rw [ints_set]; exact h.oO.set k _, h.oR.far (far_of (Ne.symm h.ne.1) k) _, h.oL.far (far_of (Ne.symm h.ne.2.1) k) _, h.lt, h.ne, h.nb, h.le⟩
theorem Mk.setR (h : Mk w b0 B gb gO gR gL n S own rest left) (k : Nat) (x : Int) : Mk (w.setCell ⟨gR, k, none⟩ (.int .i64 x)) b0 B gb gO gR gL n S own (rest.set k x) left :=
  ⟨h.pb.far (p := ⟨gR, k, none⟩) (Ne.symm h.nb.2.1) _, h.oO.far (far_of h.ne.1 k) _, by rw [ints_set]; exact h.oR.set k _, h.oL.far (far_of (Ne.symm h.ne.2.2) k) _, h.lt, h.ne, h.nb, h.le⟩
end
/-- The two stacks. -/
structure Stacks (w : World) (B : Nat) (Al Ah : Option Addr) (nl cl nh ch : Nat) (lo hi : List Int) : Prop where
  l : Own w B 3 1 Al nl cl (ints lo)
  h : Own w B 3 1 Ah nh ch (ints hi)
  ap : Apart Al Ah
section
variable {w w' : World} {B : Nat} {Al Ah A' : Option Addr} {nl cl nh ch c' : Nat} {lo hi : List Int}
theorem Stacks.drew (s : Stacks w B Al Ah nl cl nh ch lo hi) : Stacks w.drew B Al Ah nl cl nh ch lo hi := ⟨s.l, s.h, s.ap⟩
theorem Stacks.drewN (s : Stacks w B Al Ah nl cl nh ch lo hi) (q : Nat) : Stacks (w.drewN q) B Al Ah nl cl nh ch lo hi := ⟨s.l, s.h, s.ap⟩
theorem Stacks.low (s : Stacks w B Al Ah nl cl nh ch lo hi) {p : Addr} (hp : p.block < B) (u : Value) : Stacks (w.setCell p u) B Al Ah nl cl nh ch lo hi := ⟨s.l.low hp u, s.h.low hp u, s.ap⟩
theorem Stacks.alloc (s : Stacks w B Al Ah nl cl nh ch lo hi) (o : Obj) : Stacks (w.alloc o) B Al Ah nl cl nh ch lo hi := ⟨s.l.alloc o, s.h.alloc o, s.ap⟩
theorem Stacks.pushL (s : Stacks w B Al Ah nl cl nh ch lo hi) {x : Int} (ap : Apped w w' B 3 1 Al A' (nl + 1) c' (ints lo ++ [.int .i64 x])) : Stacks w' B A' Ah (nl + 1) c' nh ch (lo ++ [x]) hi :=
  ⟨by rw [ints_append]; exact ap.own, s.h.grown_apart ap s.ap, ap.apart s.h s.ap⟩
theorem Stacks.pushH (s : Stacks w B Al Ah nl cl nh ch lo hi) {x : Int} (ap : Apped w w' B 3 1 Ah A' (nh + 1) c' (ints hi ++ [.int .i64 x])) : Stacks w' B Al A' nl cl (nh + 1) c' lo (hi ++ [x]) :=
  ⟨s.l.grown_apart ap s.ap.symm, by rw [ints_append]; exact ap.own, (ap.apart s.l s.ap.symm).symm⟩
end
def sLen : Value → Nat
  | .slice _ n _ => n
  | _ => 0
/-- What the rows hold when k weights have been looked at. -/
def ownTo (S : Int) (n k : Nat) : List Int := List.replicate k S ++ List.replicate (n - k) 0
def restTo (n k : Nat) : List Int := ((List.range k).map fun (i : Nat) => (i : Int)) ++ List.replicate (n - k) 0
def leftTo (n : Nat) (xs : List Int) (k : Nat) : List Int := ((xs.take k).map fun x => x * (n : Int)) ++ List.replicate (n - k) 0
theorem pre_set (a : List Int) (n k : Nat) (x : Int) (ha : a.length = k) (hk : k < n) : (a ++ List.replicate (n - k) 0).set k x = (a ++ [x]) ++ List.replicate (n - (k + 1)) 0 := by
  rw [List.set_append_right _ _ (by omega), ha, Nat.sub_self, show n - k = (n - (k + 1)) + 1 by omega, List.replicate_succ, List.set_cons_zero]
  simp
theorem ownTo_next {S : Int} {n k : Nat} (hk : k < n) : (ownTo S n k).set k S = ownTo S n (k + 1) := by
  unfold ownTo; rw [pre_set _ n k S (by simp) hk, ← List.replicate_succ']
theorem restTo_next {n k : Nat} (hk : k < n) : (restTo n k).set k (k : Int) = restTo n (k + 1) := by
  unfold restTo; rw [pre_set _ n k _ (by simp) hk, List.range_succ, List.map_append]; rfl
theorem leftTo_next {n k : Nat} {xs : List Int} {x : Int} (hl : xs.length = n) (hx : xs[k]? = some x) (hk : k < n) : (leftTo n xs k).set k (x * (n : Int)) = leftTo n xs (k + 1) := by
  unfold leftTo
  rw [pre_set _ n k _ (by simp; omega) hk, List.take_add_one, hx, List.map_append]; rfl
theorem pre_at (a : List Int) (n k : Nat) (ha : a.length = k) (hk : k < n) : (a ++ List.replicate (n - k) 0)[k]? = some 0 := by
  rw [List.getElem?_append_right (by omega), List.getElem?_replicate, if_pos (by omega)]
theorem lies_start {S : Int} {n : Nat} {xs : List Int} (hl : xs.length = n) : ∀ k, k ≤ n → Lies (xs.map fun x => x * (n : Int)) (loTo S n xs k ++ hiTo S n xs k)
  | 0, _ => by intro p hp; simp [loTo, hiTo] at hp
  | k + 1, hk => by
    have ih := lies_start (S := S) hl k (by omega)
    have hx := getD_at (l := xs) (k := k) (by omega)
    have h0 : (xs.map fun x => x * (n : Int))[k]? = some (xs.getD k 0 * n) := by rw [List.getElem?_map, hx]; rfl
    by_cases hs : xs.getD k 0 * (n : Int) < S
    · rw [loTo, hiTo, if_pos hs, if_pos hs]
      intro p hp
      rw [List.cons_append, List.mem_cons] at hp
      rcases hp with rfl | hp
      · exact h0
      · exact ih p hp
    · rw [loTo, hiTo, if_neg hs, if_neg hs]
      intro p hp
      rw [List.mem_append, List.mem_cons] at hp
      rcases hp with hp | rfl | hp
      · exact ih p (by simp [hp])
      · exact h0
      · exact ih p (by simp [hp])

theorem mk3 {w1 wx : World} {gb gO gR n : Nat} {S : Int} (hn : n ≤ 40) (hb : Below w1.heap.size w1 wx) (h1 : wx.heap[gb]? = some (.cells #[.int .i64 S, .slice (some ⟨gO, 0, none⟩) n n, .slice (some ⟨gR, 0, none⟩) n n] 24 (0, 0)))
    (h2 : wx.heap[gO]? = some (.cells (ints (List.replicate n 0)).toArray 3 (0, 0))) (h3 : wx.heap[gR]? = some (.cells (ints (List.replicate n 0)).toArray 3 (0, 0))) (n1 : gO ≠ gR) (n2 : gO ≠ gb) (n3 : gR ≠ gb) (l1 : w1.heap.size ≤ gb) (l2 : w1.heap.size ≤ gO) (l3 : w1.heap.size ≤ gR) :
    ∃ gb' gO gR, Value.pointer (some ⟨gb, 0, none⟩) = Value.pointer (some ⟨gb', 0, none⟩) ∧ Below w1.heap.size w1 wx ∧ Blk wx gb' 24 #[.int .i64 S, .slice (some ⟨gO, 0, none⟩) n n, .slice (some ⟨gR, 0, none⟩) n n] ∧
      Own wx w1.heap.size 3 1 (some ⟨gO, 0, none⟩) n n (ints (List.replicate n 0)) ∧ Own wx w1.heap.size 3 1 (some ⟨gR, 0, none⟩) n n (ints (List.replicate n 0)) ∧ gO ≠ gR ∧ gO ≠ gb' ∧ gR ≠ gb' ∧ w1.heap.size ≤ gb' := by
  refine ⟨gb, gO, gR, rfl, hb, h1, ?_, ?_, n1, n2, n3, l1⟩
  · exact Own.of_blk (cs := (ints (List.replicate n 0)).toArray) h2 l2 (by simp only [maxLen]; omega) (by simp [ints])
  · exact Own.of_blk (cs := (ints (List.replicate n 0)).toArray) h3 l3 (by simp only [maxLen]; omega) (by simp [ints])
theorem below_alloc2 {B : Nat} {w : World} (h : B ≤ w.heap.size) (o : Obj) : Below B w (w.alloc o) := (Below.refl _ _).alloc h o
theorem aRun_nil (sum : Int) : ∀ f hi own rest, aRun sum f [] hi own rest = (own, rest)
  | 0, _, _, _ => rfl
  | _ + 1, _, _, _ => rfl
/-- What Make leaves. -/
def MakeRet (w : World) (S : Int) (n : Nat) (F : List Int × List Int) (e : Ending) (w' : World) : Prop :=
  ∃ A1 A2, e = .returned (.tuple #[.agg #[.int .i64 S, .slice A1 n n, .slice A2 n n], .int .i64 0]) ∧ Own w' w.heap.size 3 1 A1 n n (ints F.1) ∧ Own w' w.heap.size 3 1 A2 n n (ints F.2) ∧ Below w.heap.size w w'

/-- What holds at the head of each round. -/
def Rounds (w1 w2 : World) (gb gO gR gL n : Nat) (S : Int) (F : List Int × List Int) (lo hi : Value) (wr : World) : Prop :=
  ∃ (los his : List Bit) (own rest left : List Int) (Al Ah : Option Addr) (cl ch : Nat), lo = .slice Al los.length cl ∧ hi = .slice Ah his.length ch ∧ AInv n S los his ∧ Lies left (los ++ his) ∧ aRun S (los.length + his.length) los his own rest = F ∧
    Stacks wr w2.heap.size Al Ah los.length cl his.length ch (tops los) (tops his) ∧ Mk wr w1.heap.size w2.heap.size gb gO gR gL n S own rest left ∧ Below w1.heap.size w1 wr ∧ w2.heap.size ≤ wr.heap.size

set_option maxRecDepth 100000 in
set_option maxHeartbeats 3200000 in
theorem make_ok {A : Option Addr} {n c : Nat} {xs : List Int} {w : World} (h : Si w A n c xs) (he : wErr n xs = 0) :
    Calls Try.prog 11 #[.slice A n c] w (MakeRet w (wsum xs n) n (aliasOf n xs)) := by
  have hm := h.len_max
  obtain ⟨b1, b2, b3, b4, b5⟩ := wErr_zero h.ilen he
  have hmk := run_make_ints (n := n) (by omega)
  have HL := hide h.ilen
  obtain ⟨S, hS⟩ : ∃ S, wsum xs n = S := ⟨_, rfl⟩
  have HV := hide (show wVal n xs = S by rw [wVal, if_pos he, hS])
  have hS1 := wsum_okTo (n := n) (by rw [HL.out]; exact Nat.le_refl _) b2 n (Nat.le_refl _)
  rw [hS] at hS1
  have HP := fun k hk => aPre (n := n) (sum := S) b1 HL.out b3 k hk
  have HPI := hide (show AInv n S (loTo S n xs n) (hiTo S n xs n) from by have := (aPre (n := n) (sum := wsum xs n) b1 HL.out b3 n (Nat.le_refl _)).inv; rwa [hS] at this)
  obtain ⟨F, hF⟩ : ∃ F, aliasOf n xs = F := ⟨_, rfl⟩
  have HF := hide (show aRun S n (loTo S n xs n) (hiTo S n xs n) (List.replicate n S) ((List.range n).map fun (i : Nat) => (i : Int)) = F by rw [← hF, ← hS]; rfl)
  rw [hF, hS]
  have HPH := hide HP
  have HW := hide b3
  have HE := hide he
  obtain ⟨hS2, hS3⟩ := hS1
  have hS4 : S ≤ 40000000000000 := by omega
  clear hS b3 he b2 b5 hF HP hS3
  go_enter Try.func11, Try.ntmps11
  go_wp2_with fail
  refine (weights_is (h.on (by repeat' (first | assumption | with_reducible exact Below.refl _ _ | with_reducible apply Below.drew | with_reducible apply below_drewN | with_reducible apply below_alloc | with_reducible refine below_set ?_ ?_ _ | (simp only [World.size_alloc, World.heap_drewN]; omega) | (simp; omega)))) HV.out HE.out).mono ?_
  rintro e w1 ⟨rfl, hb1⟩
  have hw1 : Below w.heap.size w w1 := below_on (by repeat' (first | assumption | with_reducible exact Below.refl _ _ | with_reducible apply Below.drew | with_reducible apply below_drewN | with_reducible apply below_alloc | with_reducible refine below_set ?_ ?_ _ | (simp only [World.size_alloc, World.heap_drewN]; omega) | (simp; omega))) hb1
  have rb1 := (Blk.new w 24 #[.int .i64 0, .slice none 0 0, .slice none 0 0]).below hb1 (Blk.new w 24 #[.int .i64 0, .slice none 0 0, .slice none 0 0]).lt
  have z1 := hb1.size
  simp only [World.size_alloc] at z1
  go_wp2_with fail
  go_upto_region 4 with fail
  go_cut [6] (fun s6 wx => ∃ gb gO gR, s6 = .pointer (some ⟨gb, 0, none⟩) ∧ Below w1.heap.size w1 wx ∧ Blk wx gb 24 #[.int .i64 S, .slice (some ⟨gO, 0, none⟩) n n, .slice (some ⟨gR, 0, none⟩) n n] ∧
    Own wx w1.heap.size 3 1 (some ⟨gO, 0, none⟩) n n (ints (List.replicate n 0)) ∧ Own wx w1.heap.size 3 1 (some ⟨gR, 0, none⟩) n n (ints (List.replicate n 0)) ∧ gO ≠ gR ∧ gO ≠ gb ∧ gR ≠ gb ∧ w1.heap.size ≤ gb)
  case first =>
    go_region
    all_goals go_wp2_with fail
    all_goals go_meet
    · exact mk3 (gb := w1.heap.size + 1 + 1) (gO := w1.heap.size) (gR := w1.heap.size + 1) b1 (by repeat' (first | assumption | with_reducible exact Below.refl _ _ | with_reducible apply Below.drew | with_reducible apply below_drewN | with_reducible apply below_alloc | with_reducible refine below_set ?_ ?_ _ | (simp only [World.size_alloc, World.heap_drewN]; omega) | (simp; omega))) (by simp only [World.drew, heap_alloc_get, World.size_alloc]; repeat (first | rw [if_pos trivial] | rw [if_pos rfl] | rw [if_neg (by omega)])) (by simp only [World.drew, heap_alloc_get, World.size_alloc]; repeat (first | rw [if_pos trivial] | rw [if_pos rfl] | rw [if_neg (by omega)])) (by simp only [World.drew, heap_alloc_get, World.size_alloc]; repeat (first | rw [if_pos trivial] | rw [if_pos rfl] | rw [if_neg (by omega)])) (by omega) (by omega) (by omega) (by omega) (by omega) (by omega)
    · exact mk3 (gb := w1.heap.size + 1) (gO := w1.heap.size) (gR := w1.heap.size + 1 + 1) b1 (by repeat' (first | assumption | with_reducible exact Below.refl _ _ | with_reducible apply Below.drew | with_reducible apply below_drewN | with_reducible apply below_alloc | with_reducible refine below_set ?_ ?_ _ | (simp only [World.size_alloc, World.heap_drewN]; omega) | (simp; omega))) (by simp only [World.drew, heap_alloc_get, World.size_alloc]; repeat (first | rw [if_pos trivial] | rw [if_pos rfl] | rw [if_neg (by omega)])) (by simp only [World.drew, heap_alloc_get, World.size_alloc]; repeat (first | rw [if_pos trivial] | rw [if_pos rfl] | rw [if_neg (by omega)])) (by simp only [World.drew, heap_alloc_get, World.size_alloc]; repeat (first | rw [if_pos trivial] | rw [if_pos rfl] | rw [if_neg (by omega)])) (by omega) (by omega) (by omega) (by omega) (by omega) (by omega)
    · exact mk3 (gb := w1.heap.size + 1 + 1) (gO := w1.heap.size + 1) (gR := w1.heap.size) b1 (by repeat' (first | assumption | with_reducible exact Below.refl _ _ | with_reducible apply Below.drew | with_reducible apply below_drewN | with_reducible apply below_alloc | with_reducible refine below_set ?_ ?_ _ | (simp only [World.size_alloc, World.heap_drewN]; omega) | (simp; omega))) (by simp only [World.drew, heap_alloc_get, World.size_alloc]; repeat (first | rw [if_pos trivial] | rw [if_pos rfl] | rw [if_neg (by omega)])) (by simp only [World.drew, heap_alloc_get, World.size_alloc]; repeat (first | rw [if_pos trivial] | rw [if_pos rfl] | rw [if_neg (by omega)])) (by simp only [World.drew, heap_alloc_get, World.size_alloc]; repeat (first | rw [if_pos trivial] | rw [if_pos rfl] | rw [if_neg (by omega)])) (by omega) (by omega) (by omega) (by omega) (by omega) (by omega)
    · exact mk3 (gb := w1.heap.size + 1) (gO := w1.heap.size + 1 + 1) (gR := w1.heap.size) b1 (by repeat' (first | assumption | with_reducible exact Below.refl _ _ | with_reducible apply Below.drew | with_reducible apply below_drewN | with_reducible apply below_alloc | with_reducible refine below_set ?_ ?_ _ | (simp only [World.size_alloc, World.heap_drewN]; omega) | (simp; omega))) (by simp only [World.drew, heap_alloc_get, World.size_alloc]; repeat (first | rw [if_pos trivial] | rw [if_pos rfl] | rw [if_neg (by omega)])) (by simp only [World.drew, heap_alloc_get, World.size_alloc]; repeat (first | rw [if_pos trivial] | rw [if_pos rfl] | rw [if_neg (by omega)])) (by simp only [World.drew, heap_alloc_get, World.size_alloc]; repeat (first | rw [if_pos trivial] | rw [if_pos rfl] | rw [if_neg (by omega)])) (by omega) (by omega) (by omega) (by omega) (by omega) (by omega)
    · exact mk3 (gb := w1.heap.size) (gO := w1.heap.size + 1) (gR := w1.heap.size + 1 + 1) b1 (by repeat' (first | assumption | with_reducible exact Below.refl _ _ | with_reducible apply Below.drew | with_reducible apply below_drewN | with_reducible apply below_alloc | with_reducible refine below_set ?_ ?_ _ | (simp only [World.size_alloc, World.heap_drewN]; omega) | (simp; omega))) (by simp only [World.drew, heap_alloc_get, World.size_alloc]; repeat (first | rw [if_pos trivial] | rw [if_pos rfl] | rw [if_neg (by omega)])) (by simp only [World.drew, heap_alloc_get, World.size_alloc]; repeat (first | rw [if_pos trivial] | rw [if_pos rfl] | rw [if_neg (by omega)])) (by simp only [World.drew, heap_alloc_get, World.size_alloc]; repeat (first | rw [if_pos trivial] | rw [if_pos rfl] | rw [if_neg (by omega)])) (by omega) (by omega) (by omega) (by omega) (by omega) (by omega)
    · exact mk3 (gb := w1.heap.size) (gO := w1.heap.size + 1 + 1) (gR := w1.heap.size + 1) b1 (by repeat' (first | assumption | with_reducible exact Below.refl _ _ | with_reducible apply Below.drew | with_reducible apply below_drewN | with_reducible apply below_alloc | with_reducible refine below_set ?_ ?_ _ | (simp only [World.size_alloc, World.heap_drewN]; omega) | (simp; omega))) (by simp only [World.drew, heap_alloc_get, World.size_alloc]; repeat (first | rw [if_pos trivial] | rw [if_pos rfl] | rw [if_neg (by omega)])) (by simp only [World.drew, heap_alloc_get, World.size_alloc]; repeat (first | rw [if_pos trivial] | rw [if_pos rfl] | rw [if_neg (by omega)])) (by simp only [World.drew, heap_alloc_get, World.size_alloc]; repeat (first | rw [if_pos trivial] | rw [if_pos rfl] | rw [if_neg (by omega)])) (by omega) (by omega) (by omega) (by omega) (by omega) (by omega)
  case rest =>
    obtain ⟨gb, gO, gR, rfl, hbc, pb, oO, oR, n1, n2, n3, l1⟩ := hcut
    have hzc := hbc.size
    have hwc : Below w.heap.size w wc := below_on hw1 hbc
    go_wp2_with (at_make; refine wpList_make_sl T_int rfl rfl _ _ rfl (by rfl) (by rfl) (by omega) (by simp only [maxLen]; omega) ?_; intro w2 own2 hb2; rw [ints_zero] at own2)
    have hw2 : Below w.heap.size w w2 := below_on hwc hb2
    have oO2 := oO.below hb2 (Nat.le_refl _)
    have oR2 := oR.below hb2 (Nat.le_refl _)
    have hg : wc.heap.size < w2.heap.size := by
      obtain ⟨g, hg, _, hlt⟩ := own2.addr b4
      injection hg with hg
      injection hg with hg
      omega
    have mk0 : Mk w2 w1.heap.size w2.heap.size gb gO gR wc.heap.size n S (ownTo S n 0) (restTo n 0) (leftTo n xs 0) := by
      obtain ⟨g1, hg1, lo1, lo2⟩ := oO.addr b4
      injection hg1 with hg1
      injection hg1 with hg1
      subst hg1
      obtain ⟨g2, hg2, lr1, lr2⟩ := oR.addr b4
      injection hg2 with hg2
      injection hg2 with hg2
      subst hg2
      have lb := pb.lt
      refine ⟨pb.below hb2 lb, ?_, ?_, ?_, ⟨by omega, by omega, by omega, hg⟩, ⟨n1, by omega, by omega⟩, ⟨n2, n3, by omega⟩, ⟨by omega, by omega, by omega, by omega⟩⟩
      · simpa [ownTo] using oO2.mono (by omega)
      · simpa [restTo] using oR2.mono (by omega)
      · simpa [leftTo] using own2.mono (by omega)
    clear oO oR oO2 oR2 own2 pb n1 n2 n3 l1
    obtain ⟨gL, hgL⟩ : ∃ gL, wc.heap.size = gL := ⟨_, rfl⟩
    rw [hgL] at mk0 ⊢
    clear hgL
    have hb12 : Below w1.heap.size w1 w2 := below_on hbc hb2
    have hx2 := h.on hw1
    have zB := hb12.size
    go_loopw [8, 9, 36] (fun lo hi i wr => ∃ k : Nat, ∃ Al Ah : Option Addr, ∃ cl ch : Nat, k ≤ n ∧ i = .int .i64 k ∧ lo = .slice Al (loTo S n xs k).length cl ∧ hi = .slice Ah (hiTo S n xs k).length ch ∧
      Stacks wr w2.heap.size Al Ah (loTo S n xs k).length cl (hiTo S n xs k).length ch (tops (loTo S n xs k)) (tops (hiTo S n xs k)) ∧ Mk wr w1.heap.size w2.heap.size gb gO gR gL n S (ownTo S n k) (restTo n k) (leftTo n xs k) ∧ Below w1.heap.size w1 wr ∧ w2.heap.size ≤ wr.heap.size) (fun _ _ i _ => n - (intOf i).toNat)
    case atStart => exact ⟨0, none, none, 0, 0, Nat.zero_le _, rfl, rfl, rfl, ⟨Own.nil _ _ _ _, Own.nil _ _ _ _, Apart.nil _⟩, mk0, hb12, Nat.le_refl _⟩
    case round =>
      obtain ⟨k, Al, Ah, cl, ch, hk, rfl, rfl, rfl, hst, hmk2, hbr, hzr⟩ := hrel
      by_cases hlt : k < n
      · obtain ⟨ad, x, rfl, hb, hx, hc⟩ := (hx2.on hbr).icell hlt
        have hxb := HW.out x (List.mem_of_getElem? hx)
        obtain ⟨t1, t2⟩ := times_bound hxb.1 hxb.2 b1
        obtain ⟨x1, x2⟩ := hxb
        have q0 := hmk2.pb.at_ (i := 1) rfl
        have q1 := hmk2.pb.at_ (i := 2) rfl
        have cO := hmk2.oO.cell (ints_at (pre_at (List.replicate k S) n k (by simp) hlt))
        have cR := hmk2.oR.cell (ints_at (pre_at ((List.range k).map fun (i : Nat) => (i : Int)) n k (by simp) hlt))
        have cL := hmk2.oL.cell (ints_at (pre_at ((xs.take k).map fun x => x * (n : Int)) n k (by simp; have := HL.out; omega) hlt))
        have fO := hmk2.oO.free k
        have fR := hmk2.oR.free k
        have fL := hmk2.oL.free k
        obtain ⟨d1, d2, d3⟩ := hmk2.ne
        have d1' := Ne.symm d1
        have d2' := Ne.symm d2
        have d3' := Ne.symm d3
        obtain ⟨b5, b6, b7⟩ := hmk2.nb
        have b5' := Ne.symm b5
        have b6' := Ne.symm b6
        have b7' := Ne.symm b7
        have hM := ((hmk2.setL k (x * (n : Int))).setO k S).setR k (k : Int)
        rw [leftTo_next HL.out hx hlt, ownTo_next hlt, restTo_next hlt] at hM
        obtain ⟨e1, e2, e3, e4⟩ := hmk2.lt
        obtain ⟨f1, f2, f3, f4⟩ := hmk2.le
        have hmk3 := hmk2.oL.len
        rw [ints_len] at hmk3
        have hS5 := ((hst.low (p := ⟨gL, k, none⟩) e4 (.int .i64 (x * (n : Int)))).low (p := ⟨gO, k, none⟩) e2 (.int .i64 S)).low (p := ⟨gR, k, none⟩) e3 (.int .i64 (k : Int))
        go_upto_region 10 with fail
        go_cut [10] (fun s10 wx => s10 = .int .i64 k ∧ Below w1.heap.size w1 wx ∧ w2.heap.size ≤ wx.heap.size ∧ Stacks wx w2.heap.size Al Ah (loTo S n xs k).length cl (hiTo S n xs k).length ch (tops (loTo S n xs k)) (tops (hiTo S n xs k)) ∧ Mk wx w1.heap.size w2.heap.size gb gO gR gL n S (ownTo S n (k + 1)) (restTo n (k + 1)) (leftTo n xs (k + 1)))
        case first =>
          go_region
          all_goals go_wp2_with fail
          all_goals go_meet
          all_goals exact ⟨rfl, (((hbr.setCell (p := ⟨gL, k, none⟩) (by dsimp only; omega) _).setCell (p := ⟨gO, k, none⟩) (by dsimp only; omega) _).setCell (p := ⟨gR, k, none⟩) (by dsimp only; omega) _).drew, by simp; omega, hS5.drew, hM.drew⟩
        case rest =>
          obtain ⟨rfl, hbx, hzx, hsx, hmx⟩ := hcut
          clear hst hmk2 hM hS5 cO cR cL fO fR fL q0 q1 hc
          have cL := hmx.oL.cell (ints_at (j := k) (x := x * (n : Int)) (by rw [← leftTo_next HL.out hx hlt, List.getElem?_set_self (by omega)]))
          have hxk := getD_of (d := 0) hx
          have hlen := (HPH.out k (by omega)).len
          by_cases hs : x * (n : Int) < S
          · have L1 := hide (show loTo S n xs (k + 1) = (k, x * n) :: loTo S n xs k by rw [loTo, hxk, if_pos hs])
            have L2 := hide (show hiTo S n xs (k + 1) = hiTo S n xs k by rw [hiTo, hxk, if_pos hs])
            clear hxk hx
            have T1 := hide (tops_cons (k, x * (n : Int)) (loTo S n xs k))
            obtain ⟨lo, hlo⟩ : ∃ lo, loTo S n xs k = lo := ⟨_, rfl⟩
            obtain ⟨hi, hhi⟩ : ∃ hi, hiTo S n xs k = hi := ⟨_, rfl⟩
            rw [hlo, hhi] at hsx hlen
            rw [hlo] at L1 T1
            rw [hhi] at L2
            rw [hlo, hhi]
            clear hlo hhi
            go_wp2_with (at_builtin; refine wpList_append_sl T_int rfl _ _ rfl (by rfl) (by rfl) (hsx.alloc _).l (Sl.new wc _ 1 1 [.int .i64 (k : Int)] (by simp [maxLen]) rfl) (ints_one [(k : Int)]) (by simp only [maxLen]; omega) (by omega) (by simp; omega) ?_; intro A3 c3 w3 ap)
            have ap2 := ap.below
            have hz3 := ap2.size
            simp only [World.size_alloc] at hz3
            refine ⟨⟨k + 1, A3, Ah, c3, ch, by omega, by go_num, by rw [L1.out]; rfl, by rw [L2.out], ?_, (hmx.below (below_alloc2 hzx _)).below ap2, (below_alloc hbx _).trans (ap2.mono zB), by omega⟩, by simp [intOf]; omega⟩
            rw [L1.out, L2.out, T1.out]
            exact (hsx.alloc _).pushL ap
          · have L1 := hide (show loTo S n xs (k + 1) = loTo S n xs k by rw [loTo, hxk, if_neg hs])
            have L2 := hide (show hiTo S n xs (k + 1) = (k, x * n) :: hiTo S n xs k by rw [hiTo, hxk, if_neg hs])
            clear hxk hx
            have T1 := hide (tops_cons (k, x * (n : Int)) (hiTo S n xs k))
            obtain ⟨lo, hlo⟩ : ∃ lo, loTo S n xs k = lo := ⟨_, rfl⟩
            obtain ⟨hi, hhi⟩ : ∃ hi, hiTo S n xs k = hi := ⟨_, rfl⟩
            rw [hlo, hhi] at hsx hlen
            rw [hhi] at L2 T1
            rw [hlo] at L1
            rw [hlo, hhi]
            clear hlo hhi
            go_wp2_with (at_builtin; refine wpList_append_sl T_int rfl _ _ rfl (by rfl) (by rfl) (hsx.alloc _).h (Sl.new wc _ 1 1 [.int .i64 (k : Int)] (by simp [maxLen]) rfl) (ints_one [(k : Int)]) (by simp only [maxLen]; omega) (by omega) (by simp; omega) ?_; intro A3 c3 w3 ap)
            have ap2 := ap.below
            have hz3 := ap2.size
            simp only [World.size_alloc] at hz3
            refine ⟨⟨k + 1, Al, A3, cl, c3, by omega, by go_num, by rw [L1.out], by rw [L2.out]; rfl, ?_, (hmx.below (below_alloc2 hzx _)).below ap2, (below_alloc hbx _).trans (ap2.mono zB), by omega⟩, by simp [intOf]; omega⟩
            rw [L1.out, L2.out, T1.out]
            exact (hsx.alloc _).pushH ap
      · obtain rfl : k = n := by omega
        have M0 : Mk wr w1.heap.size w2.heap.size gb gO gR gL k S (List.replicate k S) ((List.range k).map fun (i : Nat) => (i : Int)) (xs.map fun x => x * (k : Int)) := by
          have e1 : ownTo S k k = List.replicate k S := by simp [ownTo]
          have e2 : restTo k k = (List.range k).map fun (i : Nat) => (i : Int) := by simp [restTo]
          have e3 : leftTo k xs k = xs.map fun x => x * (k : Int) := by
            have := HL.out
            simp [leftTo, List.take_of_length_le (show xs.length ≤ k by omega)]
          rw [← e1, ← e2, ← e3]; exact hmk2
        have P := HPH.out k (Nat.le_refl _)
        have I0 := HPI.out
        have LI := lies_start (S := S) HL.out k (Nat.le_refl _)
        have R0 := HF.out
        have hlen := P.len
        obtain ⟨lo0, hlo⟩ : ∃ lo, loTo S k xs k = lo := ⟨_, rfl⟩
        obtain ⟨hi0, hhi⟩ : ∃ hi, hiTo S k xs k = hi := ⟨_, rfl⟩
        rw [hlo, hhi] at hst I0 LI R0 hlen
        rw [hlo, hhi]
        have R1 := hide (show aRun S (lo0.length + hi0.length) lo0 hi0 (List.replicate k S) ((List.range k).map fun (i : Nat) => (i : Int)) = F by rw [hlen]; exact R0)
        have I1 := hide I0
        have LI1 := hide LI
        clear hlo hhi P I0 LI R0 hmk2 mk0 HPI HPH HF HW
        go_wp2_with fail
        obtain ⟨wo, rfl⟩ : ∃ wo : World, wo = wr := ⟨_, rfl⟩
        obtain ⟨n, rfl⟩ : ∃ n : Nat, n = k := ⟨_, rfl⟩
        go_loopw [8, 9] (fun lo hi wr => Rounds w1 w2 gb gO gR gL n S F lo hi wr) (fun lo hi _ => sLen lo + sLen hi)
        case atStart => exact ⟨lo0, hi0, _, _, _, Al, Ah, cl, ch, rfl, rfl, I1.out, LI1.out, R1.out, hst, M0, hbr, hzr⟩
        case round =>
          clear hst M0 hbr hzr
          obtain ⟨los, his, own, rest, left, Al, Ah, cl, ch, rfl, rfl, hinv, hlie, hrun, hst, hmk2, hbr, hzr⟩ := hrel
          rcases los with _ | ⟨⟨i, x⟩, lo⟩
          · have HR := hide (show (own, rest) = F by rw [← hrun, aRun_nil])
            have q0 := hmk2.pb.at_ (i := 0) rfl
            have q1 := hmk2.pb.at_ (i := 1) rfl
            have q2 := hmk2.pb.at_ (i := 2) rfl
            have rb := rb1.below hbr rb1.lt
            have p0 := rb.at_ (i := 0) rfl
            have p1 := rb.at_ (i := 1) rfl
            have p2 := rb.at_ (i := 2) rfl
            have u0 := rb.free 0
            have u1 := rb.free 1
            have u2 := rb.free 2
            clear hrun hinv hlie
            go_wp2_with fail
            refine bodyPost_ret (v := .tuple #[.agg #[.int .i64 S, .slice (some ⟨gO, 0, none⟩) n n, .slice (some ⟨gR, 0, none⟩) n n], .int .i64 0]) (by simp [results, Try.results11, go_sem, p0, p1, p2]) rfl ⟨_, _, rfl, ?_, ?_, ?_⟩
            · rw [← HR.out]
              exact ((((hmk2.oO.low (by dsimp only; omega) _).low (by dsimp only; omega) _).low (by dsimp only; omega) _).mono hw1.size)
            · rw [← HR.out]
              exact ((((hmk2.oR.low (by dsimp only; omega) _).low (by dsimp only; omega) _).low (by dsimp only; omega) _).mono hw1.size)
            · have := below_on hw1 hbr
              repeat' (first | assumption | with_reducible exact Below.refl _ _ | with_reducible apply Below.drew | with_reducible apply below_drewN | with_reducible apply below_alloc | with_reducible refine below_set ?_ ?_ _ | (simp only [World.size_alloc, World.heap_drewN]; omega) | (simp; omega))
          · rcases his with _ | ⟨⟨k, y⟩, hi⟩
            · exact (hinv.hi_ne).elim
            have hx := hinv.low (i, x) (by simp)
            have hy := hinv.high (k, y) (by simp)
            have hni := hinv.lt (i, x) (by simp)
            have hnk := hinv.lt (k, y) (by simp)
            have hlens := hinv.len
            obtain ⟨hne, _, _⟩ := hinv.nd2
            dsimp only at hx hy hni hnk
            simp only [List.length_cons] at hlens
            obtain ⟨x1, x2⟩ := hx
            obtain ⟨y1, y2⟩ := hy
            have I := hide hinv
            have LI := hide hlie
            have lx := hlie.at_ (i := i) (x := x) (by simp)
            have ly := hlie.at_ (i := k) (x := y) (by simp)
            have RN := hide hrun
            obtain ⟨nl, hnl⟩ : ∃ nl, ((i, x) :: lo).length = nl := ⟨_, rfl⟩
            obtain ⟨nh, hnh⟩ : ∃ nh, ((k, y) :: hi).length = nh := ⟨_, rfl⟩
            have gl : lo.length + 1 = nl := by rw [← hnl]; rfl
            have gh : hi.length + 1 = nh := by rw [← hnh]; rfl
            rw [hnl, hnh] at hst
            rw [hnl, hnh]
            have el : (nl : Int) - 1 = (lo.length : Int) := by omega
            have eh : (nh : Int) - 1 = (hi.length : Int) := by omega
            obtain ⟨ga, rfl, ga1, ga2⟩ := hst.l.addr (by omega)
            obtain ⟨gh', rfl, gh1, gh2⟩ := hst.h.addr (by omega)
            have ca := hst.l.cell (ints_at (tops_last (i, x) lo))
            have cb := hst.h.cell (ints_at (tops_last (k, y) hi))
            obtain ⟨vo, hvo⟩ : ∃ vo, own[i]? = some vo := ⟨_, List.getElem?_eq_getElem (by have := hmk2.oO.len; rw [ints_len] at this; omega)⟩
            obtain ⟨vr, hvr⟩ : ∃ vr, rest[i]? = some vr := ⟨_, List.getElem?_eq_getElem (by have := hmk2.oR.len; rw [ints_len] at this; omega)⟩
            have q0 := hmk2.pb.at_ (i := 1) rfl
            have q1 := hmk2.pb.at_ (i := 2) rfl
            have cO := hmk2.oO.cell (ints_at hvo)
            have cR := hmk2.oR.cell (ints_at hvr)
            have cL := hmk2.oL.cell (ints_at lx)
            have cK := hmk2.oL.cell (ints_at ly)
            have fO := hmk2.oO.free i
            have fR := hmk2.oR.free i
            have fL := hmk2.oL.free k
            obtain ⟨d1, d2, d3⟩ := hmk2.ne
            have d1' := Ne.symm d1
            have d2' := Ne.symm d2
            have d3' := Ne.symm d3
            obtain ⟨b5, b6, b7⟩ := hmk2.nb
            have b5' := Ne.symm b5
            have b6' := Ne.symm b6
            have b7' := Ne.symm b7
            obtain ⟨e1, e2, e3, e4⟩ := hmk2.lt
            obtain ⟨f1, f2, f3, f4⟩ := hmk2.le
            have GL := hide gl
            have GH := hide gh
            have HNL := hide hnl
            have HNH := hide hnh
            have gl1 : (lo.length : Int) < (nl : Int) := by omega
            have gh3 : (hi.length : Int) < (nh : Int) := by omega
            have gl2 : (0 : Int) < (nl : Int) := by omega
            have gh4 : (nh : Int) ≤ 40 := by omega
            have gl3 : (nl : Int) ≤ 40 := by omega
            have gc := hst.l.cap
            have gd := hst.h.cap
            clear hinv hlie hrun lx ly hvo hvr gl gh hnl hnh
            have hM := (hmk2.setO i x).setR i (k : Int)
            have hS5 := (hst.low (p := ⟨gO, i, none⟩) e2 (.int .i64 x)).low (p := ⟨gR, i, none⟩) e3 (.int .i64 (k : Int))
            go_upto_region 19 with fail
            go_cut [93] (fun s93 wx => Below w1.heap.size w1 wx ∧ w2.heap.size ≤ wx.heap.size ∧ Stacks wx w2.heap.size (some ⟨ga, 0, none⟩) (some ⟨gh', 0, none⟩) nl cl nh ch (tops ((i, x) :: lo)) (tops ((k, y) :: hi)) ∧ Mk wx w1.heap.size w2.heap.size gb gO gR gL n S (own.set i x) (rest.set i (k : Int)) left)
            case first =>
              go_region
              all_goals go_wp2_with fail
              all_goals go_meet
              all_goals exact ⟨((hbr.setCell (p := ⟨gO, i, none⟩) (by dsimp only; omega) _).setCell (p := ⟨gR, i, none⟩) (by dsimp only; omega) _).drew, by simp; omega, hS5.drew, hM.drew⟩
            case rest =>
              obtain ⟨hbx, hzx, hsx, hmx⟩ := hcut
              clear hst hmk2 hM hS5 cO cR cL cK fO fR fL q0 q1 ca cb hbr hzr
              obtain ⟨w19, rfl⟩ : ∃ w19 : World, w19 = wc := ⟨_, rfl⟩
              have LI' := LI.out
              have cL := hmx.oL.cell (ints_at (LI'.at_ (i := i) (x := x) (by simp)))
              have cK := hmx.oL.cell (ints_at (LI'.at_ (i := k) (x := y) (by simp)))
              have fL := hmx.oL.free k
              clear LI'
              have r1 : IntKind.i64.wrap (S - x) = S - x := IntWalk.i64_in _ (by omega)
              have r2 : IntKind.i64.wrap (y - (S - x)) = y - (S - x) := IntWalk.i64_in _ (by omega)
              obtain ⟨z, hz⟩ : ∃ z, y - (S - x) = z := ⟨_, rfl⟩
              have hM := hmx.setL k z
              have hS5 := hsx.low (p := ⟨gL, k, none⟩) e4 (.int .i64 z)
              have z1 : 0 ≤ z := by omega
              have HZ := hide hz
              rw [← hz] at hM hS5
              clear hz
              go_upto_region 20 with fail
              go_cut [106] (fun s106 wx => Below w1.heap.size w1 wx ∧ w2.heap.size ≤ wx.heap.size ∧ Stacks wx w2.heap.size (some ⟨ga, 0, none⟩) (some ⟨gh', 0, none⟩) nl cl nh ch (tops ((i, x) :: lo)) (tops ((k, y) :: hi)) ∧ Mk wx w1.heap.size w2.heap.size gb gO gR gL n S (own.set i x) (rest.set i (k : Int)) (left.set k (y - (S - x))))
              case first =>
                go_region
                all_goals go_wp2_with fail
                all_goals go_meet
                all_goals exact ⟨(hbx.setCell (p := ⟨gL, k, none⟩) (by dsimp only; omega) _).drew, by simp; omega, hS5.drew, hM.drew⟩
              case rest =>
                clear hM hS5 cL cK fL hbx hzx hsx hmx r1 r2
                obtain ⟨hbx, hzx, hsx, hmx⟩ := hcut
                rw [HZ.out] at hmx
                have hlk : k < left.length := by have := hmx.oL.len; rw [ints_len, List.length_set] at this; omega
                have cK := hmx.oL.cell (ints_at (List.getElem?_set_self (a := z) hlk))
                have hsl : Own wc w2.heap.size 3 1 (some ⟨ga, 0, none⟩) lo.length cl (ints (tops lo)) := by
                  have h1 := hsx.l
                  rw [tops_cons, ints_append, ← GL.out] at h1
                  exact h1.init (by rw [ints_len, tops_len])
                by_cases hs : z < S
                · have hsh : Own wc w2.heap.size 3 1 (some ⟨gh', 0, none⟩) hi.length ch (ints (tops hi)) := by
                    have h1 := hsx.h
                    rw [tops_cons, ints_append, ← GH.out] at h1
                    exact h1.init (by rw [ints_len, tops_len])
                  have hst2 : Stacks wc w2.heap.size (some ⟨ga, 0, none⟩) (some ⟨gh', 0, none⟩) lo.length cl hi.length ch (tops lo) (tops hi) := ⟨hsl, hsh, hsx.ap⟩
                  have T1 := hide (tops_cons (k, z) lo)
                  have hl40 : lo.length ≤ 40 := by omega
                  go_wp2_with (at_builtin; refine wpList_append_sl T_int rfl _ _ rfl (by rfl) (by rfl) (hst2.alloc _).l (Sl.new wc _ 1 1 [.int .i64 (k : Int)] (by simp [maxLen]) rfl) (ints_one [(k : Int)]) (by simp only [maxLen]; omega) (by omega) (by simp; omega) ?_; intro A3 c3 w3 ap)
                  have ap2 := ap.below
                  have hz3 := ap2.size
                  simp only [World.size_alloc] at hz3
                  have hi2 := (I.out.step).1 (by rw [HZ.out]; exact hs)
                  have hl2 := (LI.out.step z I.out).1
                  rw [HZ.out] at hi2
                  go_roundw
                  case rel =>
                    refine ⟨(k, z) :: lo, hi, _, _, _, A3, _, c3, ch, rfl, rfl, hi2, hl2, ?_, ?_, (hmx.below (below_alloc2 hzx _)).below ap2, (below_alloc hbx _).trans (ap2.mono zB), by omega⟩
                    · rw [← RN.out]
                      simp only [List.length_cons]
                      rw [show lo.length + 1 + (hi.length + 1) = (lo.length + 1 + hi.length) + 1 by omega, aRun, HZ.out, if_pos hs]
                    · rw [T1.out]
                      exact (hst2.alloc _).pushL ap
                  case measure => simp only [sLen, List.length_cons]; have := GL.out; have := GH.out; omega
                · have HS := hide hs
                  have T1 := hide (show tops ((k, z) :: hi) = tops ((k, y) :: hi) by rw [tops_cons, tops_cons])
                  go_wp2_with fail
                  have hi2 := (I.out.step).2 (by rw [HZ.out]; have := HS.out; omega)
                  have hl2 := (LI.out.step z I.out).2
                  rw [HZ.out] at hi2
                  go_roundw
                  case rel =>
                    refine ⟨lo, (k, z) :: hi, _, _, _, _, _, cl, ch, rfl, by rw [← HNH.out]; rfl, hi2, hl2, ?_, ?_, hmx, hbx, hzx⟩
                    · rw [← RN.out]
                      simp only [List.length_cons]
                      rw [show lo.length + 1 + (hi.length + 1) = (lo.length + (hi.length + 1)) + 1 by omega, aRun, HZ.out, if_neg (by have := HS.out; omega)]
                    · rw [T1.out, show ((k, z) :: hi).length = nh from by rw [← HNH.out]; rfl]
                      exact ⟨hsl, hsx.h, hsx.ap⟩
                  case measure => simp only [sLen]; have := GL.out; omega
end Go.Proofs.Ytjmkejindmgckaa
