/-
  slices.Concat at []api.Counter, of two slices: the walk. Conditions: the slices read as lists; they are short.
-/
import Derived.Test.YtfopihlbdceepaaGreatFew3
import Derived.Test.YtfopihlbdceepaaGreatOwn2
import Derived.Test.YtfopihlbdceepaaGreatInsP
import Derived.Test.YtfopihlbdceepaaGreatEqP
import Derived.Laws.StructEq
import Derived.Lib.AppendZeros
namespace Go.Proofs.YtfopihlbdceepaaGreat
open Go.RowKit

set_option maxHeartbeats 800000 in
theorem grow_nilC {m : Nat} (hm : m ≤ 1000) (w : World) : Calls Tryz.prog 26 #[.slice none 0 0, .int .i64 m] w fun e w' => ∃ A c, e = .returned (.slice A 0 c) ∧ Own w' w.heap.size 40 2 A 0 c [] ∧ Below w.heap.size w w' := by
  rcases Nat.eq_zero_or_pos m with h0 | h0
  · subst h0
    go_enter Tryz.func26, Tryz.ntmps26
    go_wp2_with fail
    go_ret
    exact ⟨none, 0, rfl, Own.nil _ _ _ _, Below.refl _ _⟩
  · obtain ⟨i, hi, hz, hsz, hby⟩ := info_parts T_ctr.info
    have hr := fun ty => Lib.run_append_nil_zeros (P := Tryz.prog) w 22 3 ty 40 i (.agg #[.int .i64 0, .int .i64 0] : Value) .i64 .i64 Tryz.underlying22 Tryz.underlying3 hi hz m h0 (by rw [hsz]; decide) (by omega) (by rw [hby]; omega)
    have hgc : m ≤ grownCap w m 0 40 := grownCap_ge _ _ _ _
    have hgm : grownCap w m 0 40 ≤ maxLen := grownCap_le_maxLen _ _ _ _ (by simp only [maxLen]; omega)
    have hz1 : ∀ k, (Builtin.zeroCells (Value.cells (.agg #[.int .i64 0, .int .i64 0] : Value)) k).size = k * 2 := fun k => by rw [size_zeroCells, T_ctr.zs]
    obtain ⟨cs, hcs, hcl⟩ : ∃ cs : Array Value, Builtin.zeroCells (Value.cells (.agg #[.int .i64 0, .int .i64 0] : Value)) m ++ Builtin.zeroCells (Value.cells (.agg #[.int .i64 0, .int .i64 0] : Value)) (grownCap w m 0 40 - m) = cs ∧ cs.size = grownCap w m 0 40 * 2 := ⟨_, rfl, by rw [Array.size_append, hz1, hz1]; have := grownCap_ge w m 0 40; omega⟩
    rw [hcs] at hr
    generalize grownCap w m 0 40 = G at hr hgc hgm hcl
    have hown : Own (w.drew.alloc (.cells cs 40)) w.heap.size 40 2 (some ⟨w.heap.size, 0, none⟩) 0 G [] := Own.of_row (Nat.le_refl _) (heap_alloc_new w.drew _) (by rw [hcl]) (Nat.zero_le _) hgm (by simp)
    have hb : Below w.heap.size w (w.drew.alloc (.cells cs 40)) := Below.alloc (Below.drew (Below.refl _ _)) (Nat.le_refl _) _
    have hn : ¬ (m : Int) < 0 := by omega
    have hp : 0 < (m : Int) := by omega
    clear hcs hcl hi hz hsz hby hz1
    go_enter Tryz.func26, Tryz.ntmps26
    go_wp2_with (at_builtin; refine Lib.wpList_append_run _ rfl _ _ _ _ rfl _ _ rfl rfl _ _ (hr _) ?_)
    go_ret
    exact ⟨_, G, rfl, hown, hb⟩
set_option maxRecDepth 20000 in
set_option maxHeartbeats 1600000 in
theorem concat2C {A A2 : Option Addr} {n c n2 c2 gl : Nat} {xs ys : List (Int × Int)} {w : World} (hb : Blk w gl 22 #[.slice A n c, .slice A2 n2 c2]) (h : Sp w A n c xs) (h2 : Sp w A2 n2 c2 ys) (hn : n ≤ 100) (hn2 : n2 ≤ 100) :
    Calls Tryz.prog 11 #[.slice (some ⟨gl, 0, none⟩) 2 2] w fun e w' => ∃ A' c', e = .returned (.slice A' (n + n2) c') ∧ Own w' w.heap.size 40 2 A' (n + n2) c' (prs (xs ++ ys)) ∧ Below w.heap.size w w' := by
  have e0 := hb.at_ (i := 0) (u := .slice A n c) rfl
  have e1 := hb.at_ (i := 1) (u := .slice A2 n2 c2) rfl
  go_enter Tryz.func11, Tryz.ntmps11
  go_wp2_with fail
  go_loop [3, 11] (fun s i => (i = .int .i64 0 ∧ s = .int .i64 0) ∨ (i = .int .i64 1 ∧ s = .int .i64 n) ∨ (i = .int .i64 2 ∧ s = .int .i64 ((n + n2 : Nat) : Int))) (fun _ i => 2 - (intOf i).toNat)
  case atStart => exact .inl ⟨rfl, rfl⟩
  case round =>
    rcases hrel with ⟨rfl, rfl⟩ | ⟨rfl, rfl⟩ | ⟨rfl, rfl⟩
    · go_wp2_with fail
      go_round
      case rel => exact .inr (.inl ⟨rfl, rfl⟩)
      case measure => simp [intOf]
    · go_wp2_with fail
      go_round
      case rel => exact .inr (.inr ⟨rfl, by go_num⟩)
      case measure => simp [intOf]
    · clear e0 e1
      go_wp2_with fail
      refine (grow_nilC (m := n + n2) (by omega) w).mono ?_
      rintro e w1 ⟨A1, c1, rfl, own1, hb1⟩
      have hs1 := hb1.size
      go_wp2_with fail
      go_loopw [6, 27] (fun v i wr => ∃ (m : Nat) (A' : Option Addr) (c' : Nat) (zs : List (Int × Int)), v = .slice A' m c' ∧ ((i = .int .i64 0 ∧ m = 0 ∧ zs = []) ∨ (i = .int .i64 1 ∧ m = n ∧ zs = xs) ∨ (i = .int .i64 2 ∧ m = n + n2 ∧ zs = xs ++ ys)) ∧ Own wr w.heap.size 40 2 A' m c' (prs zs) ∧ Below w.heap.size w wr) (fun _ i _ => 2 - (intOf i).toNat)
      case atStart => exact ⟨0, A1, c1, [], rfl, .inl ⟨rfl, rfl, rfl⟩, own1, hb1⟩
      case round =>
        clear own1 hb1
        obtain ⟨m, A', c', zs, rfl, hcase, own, hbr⟩ := hrel
        have hzr := hbr.size
        rcases hcase with ⟨rfl, rfl, rfl⟩ | ⟨rfl, rfl, rfl⟩ | ⟨rfl, rfl, rfl⟩
        · have e0 := (hb.below hbr hb.lt).at_ (i := 0) (u := .slice A n c) rfl
          go_wp2_with (at_builtin; refine wpList_append_sl T_ctr rfl _ _ rfl (by rfl) (by rfl) own (h.on hbr) (prs_one _) (by simp only [maxLen]; omega) (by omega) hzr ?_; intro A3 c3 w3 ap)
          have own3 := ap.own
          have hb3 := hbr.trans ap.below
          go_roundw
          case rel => exact ⟨n, A3, c3, xs, rfl, .inr (.inl ⟨rfl, rfl, rfl⟩), by simpa [prs] using own3, hb3⟩
          case measure => simp [intOf]
        · have e1 := (hb.below hbr hb.lt).at_ (i := 1) (u := .slice A2 n2 c2) rfl
          go_wp2_with (at_builtin; refine wpList_append_sl T_ctr rfl _ _ rfl (by rfl) (by rfl) own (h2.on hbr) (prs_one _) (by simp only [maxLen]; omega) (by omega) hzr ?_; intro A3 c3 w3 ap)
          have own3 := ap.own
          rw [← prs_append] at own3
          have hb3 := hbr.trans ap.below
          go_roundw
          case rel => exact ⟨_, A3, c3, _, rfl, .inr (.inr ⟨rfl, rfl, rfl⟩), own3, hb3⟩
          case measure => simp [intOf]
        · go_wp2_with fail
          go_ret
          exact ⟨A', c', rfl, own, hbr⟩
end Go.Proofs.YtfopihlbdceepaaGreat
