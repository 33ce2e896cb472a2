/-
  board: Check, Put, Ask at a board of one rule that begins with nothing: the walks. Conditions: the level's bounds.
-/
import Derived.Test.YtkliebhpdcjdgaaProg
import Derived.Test.YtkliebhpdcjdgaaGen
import Derived.Test.YtkliebhpdcjdgaaPlain
import Derived.Test.YtkliebhpdcjdgaaEq
import Derived.Test.YtkliebhpdcjdgaaRule
import Derived.WalkKit
import Derived.WalkSpells
import Derived.Lib.SliceRun
import Derived.Lib.OthersKept
import Derived.Deep.LoopGhost
import Derived.Deep.QuietTactic
import Derived.BigQuiet
import Derived.Outline
import Derived.Deep.Cut
namespace Go.Proofs.Ytkliebhpdcjdgaa
open Go.RowKit

theorem T_rule : ElemT Try.prog 48 50 (.agg #[.string ⟨#[]⟩, .int .i64 0, .int .i64 0]) 3 32 := ⟨Try.underlying48, by kernel_rfl, rfl, by decide⟩
set_option maxHeartbeats 800000 in
theorem ifn_none (fv : Value) (w : World) : Calls Try.prog 169 #[.string ⟨#[]⟩, fv, .bool true] w fun e w' => e = .returned (.int .i64 (-1)) ∧ Below w.heap.size w w' := by
  go_enter Try.func169, Try.ntmps169
  go_wp2_with fail
  go_loopg [] 1 (fun gf wx => wx.heap[w.heap.size]? = some (.stringIter ⟨#[]⟩ 0) ∧ Below w.heap.size w wx)
  case atStart => exact ⟨World.iter_heap w ⟨#[]⟩ 0, (Below.refl _ w).alloc (Nat.le_refl _) _⟩
  case round =>
    obtain ⟨hit, hbw⟩ := hrel
    have hps : ¬ 0 < (⟨#[]⟩ : ByteArray).size := by decide
    have hnx : ∀ ty, (Instr.next (.pointer (some ⟨w.heap.size, 0, none⟩)) true ty).run Try.prog wr = _ := fun ty => Lib.run_next_end_at wr w.heap.size ⟨#[]⟩ 0 ty hit hps
    go_wp2_with fail
    go_ret
    exact ⟨rfl, hbw⟩
theorem cfn_none (fv : Value) (w : World) : Calls Try.prog 100 #[.string ⟨#[]⟩, fv] w fun e w' => e = .returned (.bool false) ∧ Below w.heap.size w w' := by
  have HI : ∀ w, Calls Try.prog 127 #[.string ⟨#[]⟩, fv] w fun e w' => e = .returned (.int .i64 (-1)) ∧ Below w.heap.size w w' := by
    intro w
    go_enter Try.func127, Try.ntmps127
    go_wp2_with fail
    refine (ifn_none fv w).mono ?_
    rintro e w1 ⟨rfl, bel⟩
    go_wp2_with fail
    go_ret
    exact ⟨rfl, bel⟩
  go_enter Try.func100, Try.ntmps100
  go_wp2_with fail
  refine (HI w).mono ?_
  rintro e w1 ⟨rfl, bel⟩
  go_wp2_with fail
  go_ret
  exact ⟨rfl, bel⟩
def hasPre (s p : ByteArray) : Bool := decide (p.size ≤ s.size) && ((s.extract 0 p.size).toList == p.toList)
set_option maxHeartbeats 800000 in
theorem hpre_any (s p : ByteArray) (w : World) : Calls Try.prog 68 #[.string s, .string p] w fun e w' => e = .returned (.bool (hasPre s p)) ∧ w = w' := by
  have HI : ∀ w, Calls Try.prog 107 #[.string s, .string p] w fun e w' => e = .returned (.bool (hasPre s p)) ∧ w = w' := by
    intro w
    by_cases h : p.size ≤ s.size
    · have HE := hide (show hasPre s p = ((s.extract 0 p.size).toList == p.toList) by unfold hasPre; rw [decide_eq_true h, Bool.true_and])
      go_enter Try.func107, Try.ntmps107
      go_wp2_with fail
      rw [HE.out]
      go_ret
      exact ⟨rfl, rfl⟩
    · have HE := hide (show hasPre s p = false by unfold hasPre; rw [decide_eq_false h, Bool.false_and])
      go_enter Try.func107, Try.ntmps107
      go_wp2_with fail
      rw [HE.out]
      go_ret
      exact ⟨rfl, rfl⟩
  go_enter Try.func68, Try.ntmps68
  go_wp2_with fail
  refine (HI w).mono ?_
  rintro e w1 ⟨rfl, rfl⟩
  go_wp2_with fail
  go_ret
  exact ⟨rfl, rfl⟩
section
variable {w : World} {k : Nat}
set_option maxRecDepth 20000 in
set_option maxHeartbeats 1600000 in
theorem one_t (hk : k ≤ 20) : Calls Try.prog 63 #[.agg #[.string ⟨#[]⟩, .int .i64 k, .int .i64 1]] w fun e w' => e = .returned (.int .i64 0) ∧ Below w.heap.size w w' := by
  have b0 := Blk.new w 50 #[.string ⟨#[]⟩, .int .i64 k, .int .i64 1]
  have hb0 : Below w.heap.size w (w.alloc (.cells #[.string ⟨#[]⟩, .int .i64 k, .int .i64 1] 50)) := by repeat' (first | assumption | with_reducible exact Below.refl _ _ | with_reducible apply Below.drew | with_reducible apply below_drewN | with_reducible apply below_alloc | with_reducible refine below_set ?_ ?_ _ | (simp only [World.size_alloc, World.heap_drewN]; omega) | (simp; omega))
  have h1 : ¬ (k : Int) < 0 := by omega
  have h2 : ¬ 20 < (k : Int) := by omega
  go_enter Try.func63, Try.ntmps63
  go_wp2_with fail
  refine (cfn_none _ _).mono ?_
  rintro e w1 ⟨rfl, bel⟩
  have b1 := b0.below bel b0.lt
  have c1 := b1.at_ (i := 1) (u := .int .i64 k) rfl
  have c2 := b1.at_ (i := 2) (u := .int .i64 1) rfl
  go_wp2_with fail
  go_ret
  exact ⟨rfl, below_on hb0 bel⟩
set_option maxRecDepth 20000 in
set_option maxHeartbeats 1600000 in
theorem check_nil : Calls Try.prog 30 #[.slice none 0 0] w fun e w' => e = .returned (.int .i64 0) ∧ Below w.heap.size w w' := by
  go_enter Try.func30, Try.ntmps30
  go_wp2_with fail
  go_loopg [11] 1 (fun gf s wx => s = .int .i64 0 ∧ Below w.heap.size w wx)
  case atStart => exact ⟨rfl, Below.refl _ _⟩
  case round =>
    obtain ⟨rfl, hb⟩ := hrel
    go_wp2_with fail
    go_ret
    exact ⟨rfl, hb⟩
set_option maxRecDepth 20000 in
set_option maxHeartbeats 1600000 in
theorem check_t {A : Option Addr} {c : Nat} (hk : k ≤ 20) (h : Sr w A 1 c [(⟨#[]⟩, (k : Int), 1)]) : Calls Try.prog 30 #[.slice A 1 c] w fun e w' => e = .returned (.int .i64 0) ∧ Below w.heap.size w w' := by
  have hm := h.len_max
  go_enter Try.func30, Try.ntmps30
  go_wp2_with fail
  go_loopw [11] (fun i wr => ∃ j : Nat, j ≤ 1 ∧ i = .int .i64 j ∧ Below w.heap.size w wr) (fun i _ => 1 - (intOf i).toNat)
  case atStart => exact ⟨0, by omega, rfl, Below.refl _ _⟩
  case round =>
    obtain ⟨j, hj, rfl, hb⟩ := hrel
    by_cases hlt : j < 1
    · obtain ⟨ad, r, rfl, hbk, hr, hc0, hc1, hc2⟩ := (h.below hb).rcell hlt
      have er : r = (⟨#[]⟩, (k : Int), 1) := by
        have : j = 0 := by omega
        subst this
        simpa using hr.symm
      subst er
      clear hr
      dsimp only at hc0 hc1 hc2
      have hb2 : Below w.heap.size w (wr.alloc (.cells #[.string ⟨#[]⟩, .int .i64 k, .int .i64 1] 50)) := by repeat' (first | assumption | with_reducible exact Below.refl _ _ | with_reducible apply Below.drew | with_reducible apply below_drewN | with_reducible apply below_alloc | with_reducible refine below_set ?_ ?_ _ | (simp only [World.size_alloc, World.heap_drewN]; omega) | (simp; omega))
      go_wp2_with fail
      refine (one_t hk).mono ?_
      rintro e w1 ⟨rfl, bel⟩
      have hb3 := below_on hb2 bel
      have hz : ¬ 0 < (j : Int) := by omega
      have hz3 : ¬ 0 < j := by omega
      have hz2 : decide (0 < (j : Int)) = false := decide_eq_false hz
      have hz4 : decide (0 < j) = false := decide_eq_false hz3
      clear hlt
      go_wp2_with fail
      go_quiet (fail)
      go_wp2_with fail
      exact ⟨⟨j + 1, by omega, by go_num, below_drewN hb3 _⟩, by simp [intOf]; omega⟩
    · obtain rfl : j = 1 := by omega
      go_wp2_with fail
      go_ret
      exact ⟨rfl, hb⟩
set_option maxRecDepth 20000 in
set_option maxHeartbeats 1600000 in
theorem insert_nil {g : Nat} {r : Rl} (h : Sr w (some ⟨g, 0, none⟩) 1 1 [r]) : Calls Try.prog 67 #[.slice none 0 0, .int .i64 0, .slice (some ⟨g, 0, none⟩) 1 1] w fun e w' => ∃ A c, e = .returned (.slice A 1 c) ∧ Sr w' A 1 c [r] ∧ Below w.heap.size w w' := by
  go_enter Try.func67, Try.ntmps67
  go_wp2_with (at_builtin; refine wpList_append_sl T_rule rfl _ _ rfl (by rfl) (by rfl) (Own.nil _ w.heap.size _ 3) h (rls_one _) (by simp [maxLen]) (by omega) (by omega) ?_; intro A c w1 ap)
  go_ret
  exact ⟨A, c, rfl, by have := ap.own.sl; simpa using this, ap.below⟩
set_option maxRecDepth 20000 in
set_option maxHeartbeats 1600000 in
theorem find_nil (s : ByteArray) : Calls Try.prog 65 #[.slice none 0 0, .string s] w fun e w' => e = .returned (.tuple #[.int .i64 0, .bool false]) ∧ Below w.heap.size w w' := by
  have HB : ∀ w fv, Calls Try.prog 102 #[.slice none 0 0, .string s, fv] w fun e w' => e = .returned (.tuple #[.int .i64 0, .bool false]) ∧ Below w.heap.size w w' := by
    intro w fv
    go_enter Try.func102, Try.ntmps102
    go_wp2_with fail
    go_loopg [9, 10] 1 (fun gf s t wx => s = .int .i64 0 ∧ t = .int .i64 0 ∧ Below w.heap.size w wx)
    case atStart => exact ⟨rfl, rfl, Below.refl _ _⟩
    case round =>
      obtain ⟨rfl, rfl, hb⟩ := hrel
      go_wp2_with fail
      go_ret2
      exact ⟨rfl, hb⟩
  go_enter Try.func65, Try.ntmps65
  go_wp2_with fail
  refine (HB _ _).mono ?_
  rintro e w1 ⟨rfl, bel⟩
  go_wp2_with fail
  go_ret2
  exact ⟨rfl, bel⟩
set_option maxRecDepth 20000 in
set_option maxHeartbeats 1600000 in
theorem put_t (hk : k ≤ 20) : Calls Try.prog 26 #[.slice none 0 0, .agg #[.string ⟨#[]⟩, .int .i64 k, .int .i64 1]] w fun e w' => ∃ A c, e = .returned (.tuple #[.slice A 1 c, .int .i64 0]) ∧ Sr w' A 1 c [(⟨#[]⟩, (k : Int), 1)] ∧ Below w.heap.size w w' := by
  have b0 := Blk.new w 50 #[.string ⟨#[]⟩, .int .i64 k, .int .i64 1]
  have hb0 : Below w.heap.size w (w.alloc (.cells #[.string ⟨#[]⟩, .int .i64 k, .int .i64 1] 50)) := by repeat' (first | assumption | with_reducible exact Below.refl _ _ | with_reducible apply Below.drew | with_reducible apply below_drewN | with_reducible apply below_alloc | with_reducible refine below_set ?_ ?_ _ | (simp only [World.size_alloc, World.heap_drewN]; omega) | (simp; omega))
  have HC : ∀ w, Calls Try.prog 64 #[.slice none 0 0] w fun e w' => e = .returned (.slice none 0 0) ∧ w = w' := by
    intro w
    go_enter Try.func64, Try.ntmps64
    have r := fun w => Lib.run_eql_slice_nil (P := Try.prog) w 48 50 none 0 0 0 0 Try.underlying48
    go_wp2
    go_ret
    exact ⟨rfl, rfl⟩
  go_enter Try.func26, Try.ntmps26
  go_wp2_with fail
  refine check_nil.mono ?_
  rintro e w1 ⟨rfl, bel1⟩
  have b1 := b0.below bel1 b0.lt
  have k1 := below_on hb0 bel1
  have c0 := b1.at_ (i := 0) (u := .string ⟨#[]⟩) rfl
  have c1 := b1.at_ (i := 1) (u := .int .i64 k) rfl
  have c2 := b1.at_ (i := 2) (u := .int .i64 1) rfl
  clear b0 hb0 bel1
  go_wp2_with fail
  refine (one_t hk).mono ?_
  rintro e w2 ⟨rfl, bel2⟩
  have b2 := b1.below bel2 b1.lt
  have k2 := below_on k1 bel2
  clear c0 c1 c2 b1 k1 bel2
  have c0 := b2.at_ (i := 0) (u := .string ⟨#[]⟩) rfl
  go_wp2_with fail
  refine (HC _).mono ?_
  rintro e w3 ⟨rfl, rfl⟩
  go_wp2_with fail
  refine (find_nil _).mono ?_
  rintro e w3 ⟨rfl, bel3⟩
  have b3 := b2.below bel3 b2.lt
  have k3 := below_on k2 bel3
  clear c0 b2 k2 bel3
  have c0 := b3.at_ (i := 0) (u := .string ⟨#[]⟩) rfl
  have c1 := b3.at_ (i := 1) (u := .int .i64 k) rfl
  have c2 := b3.at_ (i := 2) (u := .int .i64 1) rfl
  go_wp2_with fail
  go_quiet (fail)
  go_wp2_with fail
  go_quiet (fail)
  go_wp2_with fail
  refine (insert_nil (r := (⟨#[]⟩, (k : Int), 1)) (Sl.blk 3 1 (cs := rls [(⟨#[]⟩, (k : Int), 1)]) (at_new _ _) rfl (by simp [maxLen]))).mono ?_
  rintro e w4 ⟨A, c, rfl, s4, bel4⟩
  go_wp2_with fail
  go_ret2
  exact ⟨A, c, rfl, s4, below_on (below_alloc (below_drewN k3 _) _) bel4⟩
set_option maxRecDepth 20000 in
set_option maxHeartbeats 1600000 in
theorem ask_t {A : Option Addr} {c : Nat} (hk : k ≤ 20) (h : Sr w A 1 c [(⟨#[]⟩, (k : Int), 1)]) : Calls Try.prog 28 #[.slice A 1 c, .string ⟨#[97, 110, 121]⟩] w fun e w' => e = .returned (.tuple #[.int .i64 k, .int .i64 0]) ∧ Below w.heap.size w w' := by
  have hm := h.len_max
  have HP := hide (show ∀ w, Calls Try.prog 68 #[.string ⟨#[97, 110, 121]⟩, .string ⟨#[]⟩] w fun e w' => e = .returned (.bool true) ∧ w = w' from fun w => by have k := hpre_any ⟨#[97, 110, 121]⟩ ⟨#[]⟩ w; rw [show hasPre ⟨#[97, 110, 121]⟩ ⟨#[]⟩ = true by rw [hasPre, ByteArray.toList_eq, ByteArray.toList_eq]; decide] at k; exact k)
  go_enter Try.func28, Try.ntmps28
  go_wp2_with fail
  refine (check_t hk h).mono ?_
  rintro e w1 ⟨rfl, bel1⟩
  have h1 := h.on bel1
  go_wp2_with fail
  go_loopw [7, 20] (fun b i wr => ∃ j : Nat, j ≤ 1 ∧ i = .int .i64 j ∧ b = .int .i64 (if j = 0 then -1 else 0) ∧ Below w1.heap.size w1 wr) (fun _ i _ => 1 - (intOf i).toNat)
  case atStart => exact ⟨0, by omega, rfl, rfl, Below.refl _ _⟩
  case round =>
    obtain ⟨j, hj, rfl, rfl, hb⟩ := hrel
    by_cases hlt : j < 1
    · obtain ⟨ad, r, rfl, hbk, hr, hc0, hc1, hc2⟩ := (h1.below hb).rcell hlt
      have er : r = (⟨#[]⟩, (k : Int), 1) := by
        have : j = 0 := by omega
        subst this
        simpa using hr.symm
      subst er
      clear hr
      dsimp only at hc0 hc1 hc2
      have hj0 : j = 0 := by omega
      rw [if_pos hj0]
      have HJ := hide hj0
      clear hj0
      have hb2 : Below w1.heap.size w1 (wr.alloc (.cells #[.string ⟨#[]⟩, .int .i64 k, .int .i64 1] 50)) := below_alloc hb _
      have bp := Blk.new wr 50 #[.string ⟨#[]⟩, .int .i64 k, .int .i64 1]
      have q0 := bp.at_ (i := 0) (u := .string ⟨#[]⟩) rfl
      go_upto_region 10 with fail
      clear bp
      generalize (wr.alloc (.cells #[.string ⟨#[]⟩, .int .i64 k, .int .i64 1] 50)) = wz at q0 hb2 ⊢
      go_quiet ((go_at_call 68; exact Calls.quiet_of_same ((HP.out _).mono fun _ _ ⟨he, hw⟩ => ⟨he, hw.symm⟩)))
      go_wp2_with fail
      exact ⟨⟨j + 1, by omega, by go_num, by rw [if_neg (by omega), HJ.out]; rfl, below_drewN hb2 _⟩, by simp [intOf]; omega⟩
    · obtain rfl : j = 1 := by omega
      obtain ⟨ad, r, rfl, hbk, hr, hc0, hc1, hc2⟩ := (h1.below hb).rcell (j := 0) (by omega)
      simp only [List.getElem?_cons_zero, Option.some.injEq] at hr
      subst hr
      dsimp only at hc0 hc1 hc2
      rw [show ad.add (0 * 3) = ad by simp [Addr.add]] at hc0 hc1 hc2
      rw [if_neg (by omega)]
      go_wp2_with fail
      go_ret2
      exact ⟨rfl, below_on bel1 hb⟩
end
end Go.Proofs.Ytkliebhpdcjdgaa
