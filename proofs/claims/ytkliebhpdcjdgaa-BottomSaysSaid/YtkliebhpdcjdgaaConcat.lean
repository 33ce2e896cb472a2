/-
  slices.Concat at []int, of two slices: the walk. Conditions: the slices read as lists of numbers; they are short.
-/
import Derived.Test.YtkliebhpdcjdgaaClone
import Derived.Test.YtkliebhpdcjdgaaOwn2
import Derived.Test.YtkliebhpdcjdgaaInsP
import Derived.Lib.AppendZeros
namespace Go.Proofs.Ytkliebhpdcjdgaa
open Go.RowKit

/-- A builtin append whose run is known. -/
theorem wpList_append_run {P : Program} {t t2 : TypeId} {w w2 : World} {ops : Array Oper} {rest : List Oper} {o : Oper} {a : Act} {Q : Exit → Act → World → Prop} (hgd : o.guard = none) (s x : Operand)
    (ho : o.op = .call { callee := .builtin .append, args := #[s, x], argTypes := #[t, t2] }) {u v r : Value} (hes : a.eval s = u) (hex : a.eval x = v)
    (hrun : ∀ ty, (Builtin.append_ #[t, t2] ty #[u, v]).run P w = .ok r w2) (h : wpList P ops Q rest (a.put o.dst r) w2) : wpList P ops Q (o :: rest) a w :=
  wpList_plain hgd fun _ hK => by
    unfold Oper.wp execOp
    simp only [ho, resolve, invoke, builtin, Sem.run_bind, Sem.run_pure, Result.andThen_ok, List.map_toArray, List.map_cons, List.map_nil, hes, hex, hrun]
    exact hK _ _ h
set_option maxHeartbeats 800000 in
theorem grow_nil {m : Nat} (hm : m ≤ 1000) (w : World) : Calls Try.prog 62 #[.slice none 0 0, .int .i64 m] w fun e w' => ∃ A c, e = .returned (.slice A 0 c) ∧ Own w' w.heap.size 3 1 A 0 c [] ∧ Below w.heap.size w w' := by
  rcases Nat.eq_zero_or_pos m with h0 | h0
  · subst h0
    go_enter Try.func62, Try.ntmps62
    go_wp2_with fail
    go_ret
    exact ⟨none, 0, rfl, Own.nil _ _ _ _, Below.refl _ _⟩
  · obtain ⟨i, hi, hz, hsz, hby⟩ := info_parts T_int.info
    have hr := fun ty => Lib.run_append_nil_zeros (P := Try.prog) w 22 3 ty 3 i (.int .i64 0) .i64 .i64 Try.underlying22 Try.underlying3 hi hz m h0 (by rw [hsz]; decide) (by omega) (by rw [hby]; omega)
    have hgc : m ≤ grownCap w m 0 3 := grownCap_ge _ _ _ _
    have hgm : grownCap w m 0 3 ≤ maxLen := grownCap_le_maxLen _ _ _ _ (by simp only [maxLen]; omega)
    have hz1 : ∀ k, (Builtin.zeroCells (Value.int .i64 0).cells k).size = k := fun k => by rw [size_zeroCells]; simp [Value.cells]
    obtain ⟨cs, hcs, hcl⟩ : ∃ cs : Array Value, Builtin.zeroCells (Value.int .i64 0).cells m ++ Builtin.zeroCells (Value.int .i64 0).cells (grownCap w m 0 3 - m) = cs ∧ cs.size = grownCap w m 0 3 := ⟨_, rfl, by rw [Array.size_append, hz1, hz1]; omega⟩
    rw [hcs] at hr
    generalize grownCap w m 0 3 = G at hr hgc hgm hcl
    have hown : Own (w.drew.alloc (.cells cs 3)) w.heap.size 3 1 (some ⟨w.heap.size, 0, none⟩) 0 G [] := Own.of_row (Nat.le_refl _) (heap_alloc_new w.drew _) (by rw [hcl, Nat.mul_one]) (Nat.zero_le _) hgm (by simp)
    have hb : Below w.heap.size w (w.drew.alloc (.cells cs 3)) := Below.alloc (Below.drew (Below.refl _ _)) (Nat.le_refl _) _
    have hn : ¬ (m : Int) < 0 := by omega
    have hp : 0 < (m : Int) := by omega
    clear hcs hcl hi hz hsz hby hz1
    go_enter Try.func62, Try.ntmps62
    go_wp2_with (at_builtin; refine wpList_append_run rfl _ _ rfl (by rfl) (by rfl) hr ?_)
    go_ret
    exact ⟨_, G, rfl, hown, hb⟩
set_option maxRecDepth 20000 in
set_option maxHeartbeats 1600000 in
theorem concat2 {A A2 : Option Addr} {n c n2 c2 gl : Nat} {xs ys : List Int} {w : World} (hb : Blk w gl 22 #[.slice A n c, .slice A2 n2 c2]) (h : Si w A n c xs) (h2 : Si w A2 n2 c2 ys) (hn : n ≤ 100) (hn2 : n2 ≤ 100) :
    Calls Try.prog 25 #[.slice (some ⟨gl, 0, none⟩) 2 2] w fun e w' => ∃ A' c', e = .returned (.slice A' (n + n2) c') ∧ Own w' w.heap.size 3 1 A' (n + n2) c' (ints (xs ++ ys)) ∧ Below w.heap.size w w' := by
  have e0 := hb.at_ (i := 0) (u := .slice A n c) rfl
  have e1 := hb.at_ (i := 1) (u := .slice A2 n2 c2) rfl
  go_enter Try.func25, Try.ntmps25
  go_wp2_with fail
  go_loop [3, 11] (fun s i => (i = .int .i64 0 ∧ s = .int .i64 0) ∨ (i = .int .i64 1 ∧ s = .int .i64 n) ∨ (i = .int .i64 2 ∧ s = .int .i64 ((n + n2 : Nat) : Int))) (fun _ i => 2 - (intOf i).toNat)
  case atStart => exact .inl ⟨rfl, rfl⟩
  case round =>
    rcases hrel with ⟨rfl, rfl⟩ | ⟨rfl, rfl⟩ | ⟨rfl, rfl⟩
    · go_wp2_with fail
      go_round
      case rel => exact .inr (.inl ⟨rfl, rfl⟩)
      case measure => simp [intOf]
    · go_wp2_with fail
      go_round
      case rel => exact .inr (.inr ⟨rfl, by go_num⟩)
      case measure => simp [intOf]
    · clear e0 e1
      go_wp2_with fail
      refine (grow_nil (m := n + n2) (by omega) w).mono ?_
      rintro e w1 ⟨A1, c1, rfl, own1, hb1⟩
      have hs1 := hb1.size
      go_wp2_with fail
      go_loopw [6, 27] (fun v i wr => ∃ (m : Nat) (A' : Option Addr) (c' : Nat) (zs : List Int), v = .slice A' m c' ∧ ((i = .int .i64 0 ∧ m = 0 ∧ zs = []) ∨ (i = .int .i64 1 ∧ m = n ∧ zs = xs) ∨ (i = .int .i64 2 ∧ m = n + n2 ∧ zs = xs ++ ys)) ∧ Own wr w.heap.size 3 1 A' m c' (ints zs) ∧ Below w.heap.size w wr) (fun _ i _ => 2 - (intOf i).toNat)
      case atStart => exact ⟨0, A1, c1, [], rfl, .inl ⟨rfl, rfl, rfl⟩, own1, hb1⟩
      case round =>
        clear own1 hb1
        obtain ⟨m, A', c', zs, rfl, hcase, own, hbr⟩ := hrel
        have hzr := hbr.size
        rcases hcase with ⟨rfl, rfl, rfl⟩ | ⟨rfl, rfl, rfl⟩ | ⟨rfl, rfl, rfl⟩
        · have e0 := (hb.below hbr hb.lt).at_ (i := 0) (u := .slice A n c) rfl
          go_wp2_with (at_builtin; refine wpList_append_sl T_int rfl _ _ rfl (by rfl) (by rfl) own (h.on hbr) (ints_one _) (by simp only [maxLen]; omega) (by omega) hzr ?_; intro A3 c3 w3 ap)
          have own3 := ap.own
          have hb3 := hbr.trans ap.below
          go_roundw
          case rel => exact ⟨n, A3, c3, xs, rfl, .inr (.inl ⟨rfl, rfl, rfl⟩), by simpa [ints] using own3, hb3⟩
          case measure => simp [intOf]
        · have e1 := (hb.below hbr hb.lt).at_ (i := 1) (u := .slice A2 n2 c2) rfl
          go_wp2_with (at_builtin; refine wpList_append_sl T_int rfl _ _ rfl (by rfl) (by rfl) own (h2.on hbr) (ints_one _) (by simp only [maxLen]; omega) (by omega) hzr ?_; intro A3 c3 w3 ap)
          have own3 := ap.own
          rw [← ints_append] at own3
          have hb3 := hbr.trans ap.below
          go_roundw
          case rel => exact ⟨_, A3, c3, _, rfl, .inr (.inr ⟨rfl, rfl, rfl⟩), own3, hb3⟩
          case measure => simp [intOf]
        · go_wp2_with fail
          go_ret
          exact ⟨A', c', rfl, own, hbr⟩
end Go.Proofs.Ytkliebhpdcjdgaa
