/-
  span.Kept, span.Whole, span.Count: the walks. Conditions: the slices read as lists.
-/
import Derived.Test.YtgejpinepkockaaSpan
import Derived.Test.YtgejpinepkockaaApp
import Derived.IntWalk
namespace Go.Proofs.Ytgejpinepkockaa
open Go.RowKit

/-- A row that is filled from its head on. -/
def fillTo {α β : Type} (f : α → β) (z : β) (xs : List α) (n k : Nat) : List β := (xs.take k).map f ++ List.replicate (n - k) z
theorem fillTo_zero {α β : Type} (f : α → β) (z : β) (xs : List α) (n : Nat) : fillTo f z xs n 0 = List.replicate n z := by simp [fillTo]
theorem fillTo_all {α β : Type} {f : α → β} {z : β} {xs : List α} {n : Nat} (h : xs.length = n) : fillTo f z xs n n = xs.map f := by
  simp [fillTo, List.take_of_length_le (show xs.length ≤ n by omega)]
theorem fillTo_at {α β : Type} {f : α → β} {z : β} {xs : List α} {n k : Nat} (h : xs.length = n) (hk : k < n) : (fillTo f z xs n k)[k]? = some z := by
  unfold fillTo
  rw [List.getElem?_append_right (by simp; omega), List.getElem?_replicate, if_pos (by simp; omega)]
theorem fillTo_next {α β : Type} {f : α → β} {z : β} {xs : List α} {n k : Nat} {x : α} (h : xs.length = n) (hx : xs[k]? = some x) (hk : k < n) : (fillTo f z xs n k).set k (f x) = fillTo f z xs n (k + 1) := by
  unfold fillTo
  have hl : ((xs.take k).map f).length = k := by simp; omega
  rw [List.set_append_right _ _ (by omega), hl, Nat.sub_self, show n - k = (n - (k + 1)) + 1 by omega, List.replicate_succ, List.set_cons_zero, List.take_add_one, hx, List.map_append]
  simp
theorem spanErr_zero {n : Nat} {ps : List (Int × Int)} (h : spanErr n ps = 0) : n ≤ 40 ∧ okTo (spanOk ps) n = true := by
  unfold spanErr at h
  by_cases h1 : 40 < n
  · rw [if_pos h1] at h; omega
  · rw [if_neg h1] at h
    cases h2 : okTo (spanOk ps) n
    · rw [h2] at h; simp at h
    · exact ⟨by omega, rfl⟩
theorem spanOk_true {ps : List (Int × Int)} {n k : Nat} {u l : Int} (h : okTo (spanOk ps) n = true) (hk : k < n) (hp : ps[k]? = some (u, l)) : -1 ≤ u ∧ u < (k : Int) ∧ 0 ≤ l ∧ l ≤ 20 := by
  have h1 := okTo_at n h hk
  rw [spanOk_is hp, decide_eq_true_eq] at h1
  exact h1
theorem spanCheck_is {A : Option Addr} {n c : Nat} {ps : List (Int × Int)} {w : World} (h : Sp w A n c ps) {E : Int} (he : spanErr n ps = E) :
    Calls Try.prog 61 #[.slice A n c] w fun e w' => e = .returned (.int .i64 E) ∧ Below w.heap.size w w' := by
  have k := spanCheck_any h; rw [he] at k; exact k
theorem spans_is {A : Option Addr} {n c : Nat} {ps : List (Int × Int)} {w : World} (h : Sp w A n c ps) {E : Int} (he : spanErr n ps = E) :
    Calls Try.prog 60 #[.slice A n c] w fun e w' => e = .returned (.int .i64 E) ∧ Below w.heap.size w w' := by
  have k := spans_any h; rw [he] at k; exact k
theorem T_bool : ElemT Try.prog 73 4 (.bool false) 1 1 := ⟨Try.underlying73, by kernel_rfl, rfl, by decide⟩
abbrev Sb (w : World) (A : Option Addr) (n c : Nat) (bs : List Bool) : Prop := Sl w w.heap.size 1 A n c (bools bs)
/-- Is a span kept by a draw? -/
def keeps (r : Int) (p : Int × Int) : Bool := decide (lev p.2.toNat ≤ r)
def KeptRet (w : World) (n : Nat) (bs : List Bool) (e : Ending) (w' : World) : Prop :=
  ∃ A c, e = .returned (.tuple #[.slice A n c, .int .i64 0]) ∧ Own w' w.heap.size 4 1 A n c (bools bs) ∧ Below w.heap.size w w'
section
variable {A B : Option Addr} {n c m d : Nat} {ps : List (Int × Int)} {bs : List Bool} {w : World} {r : Int}
set_option maxRecDepth 20000 in
set_option maxHeartbeats 1600000 in
theorem kept_bad (h : Sp w A n c ps) {E : Int} (he : spanErr n ps = E) (h0 : ¬ E = 0) :
    Calls Try.prog 56 #[.slice A n c, .int .i64 r] w fun e w' => e = .returned (.tuple #[.slice none 0 0, .int .i64 E]) ∧ Below w.heap.size w w' := by
  have t1 : (E != 0) = true := by simpa using h0
  have H := hide he
  clear he h0
  go_enter Try.func56, Try.ntmps56
  go_wp2_with fail
  refine (spanCheck_is h H.out).mono ?_
  rintro e w1 ⟨rfl, hb1⟩
  go_wp2_with fail
  go_ret2
  exact ⟨rfl, hb1⟩
set_option maxRecDepth 20000 in
set_option maxHeartbeats 1600000 in
theorem kept_arg (h : Sp w A n c ps) (he : spanErr n ps = 0) (hr : ¬ (0 ≤ r ∧ r ≤ 72057594037927935)) :
    Calls Try.prog 56 #[.slice A n c, .int .i64 r] w fun e w' => e = .returned (.tuple #[.slice none 0 0, .int .i64 1]) ∧ Below w.heap.size w w' := by
  have H := hide he
  clear he
  have key : r < 0 ∨ (¬ r < 0 ∧ 72057594037927936 ≤ r) := by omega
  clear hr
  rcases key with k1 | ⟨k1, k2⟩
  all_goals
    go_enter Try.func56, Try.ntmps56
    go_wp2_with fail
    refine (spanCheck_is h H.out).mono ?_
    rintro e w1 ⟨rfl, hb1⟩
    go_wp2_with fail
    go_ret2
    exact ⟨rfl, hb1⟩
set_option maxRecDepth 20000 in
set_option maxHeartbeats 1600000 in
theorem kept_ok (h : Sp w A n c ps) (he : spanErr n ps = 0) (hr1 : 0 ≤ r) (hr2 : r ≤ 72057594037927935) :
    Calls Try.prog 56 #[.slice A n c, .int .i64 r] w (KeptRet w n (ps.map (keeps r))) := by
  obtain ⟨g1, g2⟩ := spanErr_zero he
  have hm := h.len_max
  have HL := hide h.plen
  have HOK := hide g2
  have H := hide he
  clear he g2
  go_enter Try.func56, Try.ntmps56
  go_wp2_with fail
  refine (spanCheck_is h H.out).mono ?_
  rintro e w1 ⟨rfl, hb1⟩
  go_wp2_with (at_make; refine wpList_make_sl T_bool rfl rfl _ _ rfl (by rfl) (by rfl) (by omega) (by simp only [maxLen]; omega) ?_; intro w2 own2 hb2; rw [show List.replicate n (Value.bool false) = bools (fillTo (keeps r) false ps n 0) from by simp [bools, fillTo_zero]] at own2)
  have z1 := hb1.size
  have hb12 : Below w.heap.size w w2 := below_on hb1 hb2
  have z2 := hb2.size
  have hg : w1.heap.size < w2.heap.size ∨ n = 0 := by
    rcases Nat.eq_zero_or_pos n with e | e
    · exact .inr e
    · obtain ⟨g, hg, _, hlt⟩ := own2.addr e
      injection hg with hg
      injection hg with hg
      exact .inl (by omega)
  go_loopw [26] (fun i wr => ∃ k : Nat, k ≤ n ∧ i = .int .i64 k ∧ Own wr w1.heap.size 4 1 (some ⟨w1.heap.size, 0, none⟩) n n (bools (fillTo (keeps r) false ps n k)) ∧ Below w.heap.size w wr) (fun i _ => n - (intOf i).toNat)
  case atStart => exact ⟨0, Nat.zero_le _, rfl, own2, hb12⟩
  case round =>
    clear own2 hb12
    obtain ⟨k, hk, rfl, hown, hb⟩ := hrel
    by_cases hlt : k < n
    · obtain ⟨ad, ⟨u, l⟩, rfl, hbk, hp, hc0, hc1⟩ := (h.on hb).pcell hlt
      obtain ⟨a1, a2, a3, a4⟩ := spanOk_true HOK.out hlt hp
      obtain ⟨ln, rfl⟩ := Int.eq_ofNat_of_zero_le a3
      have l2 : ln ≤ 20 := by omega
      obtain ⟨p1, p2⟩ := div_bounds (l := ln)
      have HN := hide (fillTo_next (f := keeps r) (z := false) HL.out hp hlt)
      have hcb := hown.cell (bools_at (fillTo_at (f := keeps r) (z := false) HL.out hlt))
      have hfb := hown.free k
      dsimp only at hc0 hc1
      have hlt2 := (hown.addr (by omega))
      have hsz : w1.heap.size < wr.heap.size := by
        obtain ⟨g, hg, _, hlt⟩ := hlt2
        injection hg with hg
        injection hg with hg
        omega
      clear hp hlt2
      have ne1 : ¬ wr.heap.size = w1.heap.size := by omega
      have ne2 : ¬ w1.heap.size = wr.heap.size := by omega
      go_wp2_with fail
      go_roundw
      case rel =>
        refine ⟨k + 1, by omega, by go_num, ?_, by repeat' (first | assumption | with_reducible exact Below.refl _ _ | with_reducible apply Below.drew | with_reducible apply below_drewN | with_reducible apply below_alloc | with_reducible refine below_set ?_ ?_ _ | (simp only [World.size_alloc, World.heap_drewN]; omega) | (simp; omega))⟩
        rw [← HN.out, bools_set]
        exact (hown.set k _).alloc _
      case measure => simp [intOf]; omega
    · obtain rfl : k = n := by omega
      rw [fillTo_all HL.out] at hown
      go_wp2_with fail
      go_ret2
      exact ⟨_, _, rfl, hown.mono z1, hb⟩
end
end Go.Proofs.Ytgejpinepkockaa
