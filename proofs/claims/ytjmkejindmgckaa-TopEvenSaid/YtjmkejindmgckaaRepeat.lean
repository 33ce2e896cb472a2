/-
  slices.Repeat of a row with one zero in it. Conditions: the row is a literal's; from 1 to 1000 times.
-/
import Derived.Test.YtjmkejindmgckaaOwn2
import Derived.Test.YtjmkejindmgckaaProg
import Derived.Test.YtjmkejindmgckaaClone
import Derived.Shelf.Bits.Mul64
import Derived.Ground.NamesProg
import Derived.Laws.CopyOwn
import Derived.Deep.DeepCutAuto
import Derived.Test.YtjmkejindmgckaaOrdM
import Derived.WalkKit
namespace Go.Proofs.Ytjmkejindmgckaa
open Go.RowKit Go.Shelf

def laysMul_ren : Go.Shelf.Ren := ⟨fun | 212 => 66 | 263 => 94 | 264 => 85 | n => n, fun | 46 => 91 | 51 => 107 | 146 => 108 | 53 => 90 | 148 => 101 | n => n, fun | n => n⟩
theorem laysMul : Go.Proofs.Lays.n212 Try.prog laysMul_ren := {
  mixed := by kernel_rfl
  f212 := Try.func66.trans (congrArg some (by kernel_rfl))
  f263 := Try.func94.trans (congrArg some (by kernel_rfl))
  f264 := Try.func85.trans (congrArg some (by kernel_rfl))
  t46 := Try.underlying91
  a46 := Try.isAgg91
  z46 := Try.sizeOf91
  v46 := Try.zeroValue91
  t51 := Try.underlying107
  a51 := Try.isAgg107
  z51 := Try.sizeOf107
  v51 := Try.zeroValue107
  t53 := Try.underlying90
  a53 := Try.isAgg90
  z53 := Try.sizeOf90
  v53 := Try.zeroValue90
  t146 := Try.underlying108
  a146 := Try.isAgg108
  z146 := Try.sizeOf108
  v146 := Try.zeroValue108
  t148 := Try.underlying101
  a148 := Try.isAgg101
  z148 := Try.sizeOf101
  v148 := Try.zeroValue101 }
theorem mul_one {n : Nat} (h : n ≤ 1000) (w : World) : Calls Try.prog 66 #[.int .u64 1, .int .u64 n] w fun e w' => e = .returned (.tuple #[.int .u64 0, .int .u64 n]) ∧ w = w' := by
  refine (Any.bits_Mul laysMul 1 n (by omega) (by omega) w).mono ?_
  rintro e w' ⟨rfl, rfl⟩
  refine ⟨?_, rfl⟩
  rw [Nat.one_mul, Nat.mod_eq_of_lt (by omega), Nat.div_eq_of_lt (by omega)]
  rfl
def zs (n : Nat) : List Value := List.replicate n (.int .i64 0)
theorem zs_splice {n off k : Nat} (h : off + k ≤ n) : splice (zs n) off (zs k) = zs n := by
  unfold splice zs
  rw [List.length_replicate, List.drop_replicate, List.take_replicate, List.replicate_append_replicate, List.replicate_append_replicate]
  congr 1; omega
theorem Own.whole {w : World} {base g n : Nat} {e : TypeId} {xs : List Value} (h : Own w base e 1 (some ⟨g, 0, none⟩) n n xs) : Blk w g e xs.toArray := by
  rcases h.2 with ⟨hv, _⟩ | ⟨g', cap, cur, hv, _, hh, _, _, h3, h4⟩
  · cases hv
  · injection hv with hv _ e3
    injection hv with hv
    injection hv with hv
    subst hv; subst e3
    rw [List.take_of_length_le (by rw [Array.length_toList, h3]; exact Nat.le_refl _)] at h4
    unfold Blk
    rw [hh, ← h4]
theorem zs_one (n : Nat) : ∀ v ∈ zs n, v.oneCell' = true := fun v hv => by rw [(List.mem_replicate.1 hv).2]; rfl
theorem zs_at {n j : Nat} {v : Value} (h : (zs n)[j]? = some v) : v = .int .i64 0 ∧ j < n := by
  have h1 : j < n := by have := (List.getElem?_eq_some_iff.1 h).1; simpa [zs] using this
  rw [zs, List.getElem?_replicate, if_pos h1] at h
  exact ⟨(Option.some.inj h).symm, h1⟩
theorem zblk_cell {w : World} {g n j off : Nat} {t : TypeId} {v : Value} (hb : Blk w g t (zs n).toArray) (h : (zs j)[off]? = some v) (hj : j ≤ n) : w.cell? ((⟨g, 0, none⟩ : Addr).add off) = some v := by
  obtain ⟨rfl, h1⟩ := zs_at h
  rw [add_lit0]
  exact hb.at_ (by rw [List.getElem?_toArray, zs, List.getElem?_replicate, if_pos (by omega)])

theorem int_one : (Try.prog.info? 3).map (·.size) = some 1 := by kernel_rfl
def RepRet (w : World) (n : Nat) (e : Ending) (w' : World) : Prop := ∃ A, e = .returned (.slice A n n) ∧ Own w' w.heap.size 3 1 A n n (ints (List.replicate n 0)) ∧ Below w.heap.size w w'
set_option maxRecDepth 20000 in
set_option maxHeartbeats 1600000 in
theorem repeat_ok {w : World} {g n : Nat} (h : Blk w g 3 #[.int .i64 0]) (h1 : 1 ≤ n) (h2 : n ≤ 1000) :
    Calls Try.prog 18 #[.slice (some ⟨g, 0, none⟩) 1 1, .int .i64 n] w (RepRet w n) := by
  have h3 : ¬ (n : Int) < 0 := by omega
  go_enter Try.func18, Try.ntmps18
  go_wp2_with fail
  refine (mul_one h2 _).mono ?_
  rintro e w1 ⟨rfl, rfl⟩
  go_upto_region 7 with (at_make; refine wpList_make_sl T_int rfl rfl _ _ rfl (by rfl) (by rfl) (by omega) (by simp only [maxLen]; omega) ?_; intro w2 own2 hb2)
  obtain ⟨G, hG⟩ : ∃ G, w.heap.size = G := ⟨_, rfl⟩
  have hgG : g < G := by rw [← hG]; exact h.lt
  have B2 : Blk w2 G 3 (zs n).toArray := by rw [← hG]; exact own2.whole
  have b2 : Blk w2 g 3 #[.int .i64 0] := h.below hb2 h.lt
  have z2 := B2.lt
  clear own2 h
  rw [hG] at hb2
  have HG := hide hG
  rw [hG]
  clear hG
  have B2h : w2.heap[G]? = some (.cells (zs n).toArray 3 (0, 0)) := B2
  have hc1 := fun j v (hj : (zs 1)[j]? = some v) => zblk_cell (n := 1) b2 hj (Nat.le_refl _)
  have hn1 : (zs 1).length = Nat.min 1 n := by show (zs 1).length = min 1 n; rw [Nat.min_eq_left h1]; rfl
  have hf1 : 0 + (zs 1).length ≤ (zs n).length := by simp [zs]; omega
  go_wp2_with ((with_reducible refine wpList_copy_splice rfl (.tmp 31) (.tmp 32) 22 22 rfl 3 Try.underlying22 int_one (some ⟨G, 0, none⟩) (some ⟨g, 0, none⟩) n n 1 1 ?hd ?hs G 0 (zs n) 3 B2h (zs 1) hn1 (fun _ => ⟨rfl, _, rfl, hc1⟩) hf1 (zs_one 1) G w hb2 (Nat.le_refl _) ?_); (case hd => rfl); (case hs => rfl); intro w3 B3 hb3)
  have B4 : Blk w3 G 3 (zs n).toArray := by rw [← zs_splice (n := n) (off := 0) (k := 1) (by omega)]; exact B3.out
  clear B2 b2 hb2 z2 B3 B2h hc1 hn1 hf1
  go_loopw [8] (fun i wr => ∃ m : Nat, 1 ≤ m ∧ m ≤ n ∧ i = .int .i64 m ∧ Blk wr G 3 (zs n).toArray ∧ Below G w wr) (fun i _ => n - (intOf i).toNat)
  case atStart => exact ⟨1, Nat.le_refl _, h1, rfl, B4, hb3⟩
  case round =>
    clear B4 hb3
    obtain ⟨m, m1, m2, rfl, B4, hb4⟩ := hrel
    have z4 := B4.lt
    by_cases hlt : m < n
    · obtain ⟨j, hj⟩ : ∃ j, Nat.min m (n - m) = j := ⟨_, rfl⟩
      have hj1 : 1 ≤ j := by rw [← hj]; simp only [Nat.min_def]; split <;> omega
      have hj2 : m + j ≤ n := by rw [← hj]; simp only [Nat.min_def]; split <;> omega
      have HJ := hide hj
      clear hj
      go_upto_region 9 with fail
      have B4h : wr.drew.heap[G]? = some (.cells (zs n).toArray 3 (0, 0)) := B4
      have hcj := fun i v (hi : (zs j)[i]? = some v) => show wr.drew.cell? ((⟨G, 0, none⟩ : Addr).add i) = some v from zblk_cell (n := n) B4 hi (by omega)
      have hnj : (zs j).length = Nat.min m (n - m) := by simp only [zs, List.length_replicate]; exact HJ.out.symm
      have hfj : m + (zs j).length ≤ (zs n).length := by simp only [zs, List.length_replicate]; omega
      have hbd := hb4.drew
      have hne : ¬ n = m := by omega
      have hwr : IntKind.i64.wrap ((m : Int) + (j : Int)) = (m : Int) + (j : Int) := IntWalk.i64_in _ (by omega)
      have eIj : goInt (zs j).length = .int .i64 j := by simp [zs, goInt]
      -- region 9
      refine anyTill.begin (S := Till (fun _ => True) (fun _ => True) []) (by kernel_rfl) ?_
      refine anyTill.last (i := 0) (oi := { dst := some 38, op := Op.move (Operand.tmp 8), type := 3, pos := "slices.go:528", after := #[], guard := none }) (v := ?_) rfl (by kernel_rfl) (by kernel_rfl) (by kernel_rfl) (fun _ _ _ h => h) (by rfl) (Or.inl ⟨by rfl, ?_⟩) ⟨by trivial, fun _ => by trivial⟩ (fun hS => ?_)
      rotate_left
      · (intro w hSw; (try dsimp only at hSw); go_split_ands; go_simp; try with_reducible rfl)
      try simp only [Act.put, List.setIfInBounds_toArray, List.set_cons_zero, List.set_cons_succ]
      refine anyTill.last (i := 1) (oi := { dst := some 39, op := Op.move (Operand.tmp 7), type := 22, pos := "slices.go:528", after := #[], guard := none }) (v := ?_) rfl (by kernel_rfl) (by kernel_rfl) (by kernel_rfl) (fun _ _ _ h => h) (by rfl) (Or.inl ⟨by rfl, ?_⟩) hS (fun hS => ?_)
      rotate_left
      · (intro w hSw; (try dsimp only at hSw); go_split_ands; go_simp; try with_reducible rfl)
      try simp only [Act.put, List.setIfInBounds_toArray, List.set_cons_zero, List.set_cons_succ]
      refine anyTill.last (i := 2) (oi := { dst := some 40, op := Op.move (Operand.tmp 8), type := 3, pos := "slices.go:528", after := #[], guard := none }) (v := ?_) rfl (by kernel_rfl) (by kernel_rfl) (by kernel_rfl) (fun _ _ _ h => h) (by rfl) (Or.inl ⟨by rfl, ?_⟩) hS (fun hS => ?_)
      rotate_left
      · (intro w hSw; (try dsimp only at hSw); go_split_ands; go_simp; try with_reducible rfl)
      try simp only [Act.put, List.setIfInBounds_toArray, List.set_cons_zero, List.set_cons_succ]
      refine anyTill.last (i := 3) (oi := { dst := some 41, op := Op.slice 22 (Operand.tmp 39) (some (Operand.tmp 40)) none none, type := 22, pos := "slices.go:528", after := #[{ on := 1, ground := Ground.data }, { on := 2, ground := Ground.data }], guard := none }) (v := ?_) rfl (by kernel_rfl) (by kernel_rfl) (by kernel_rfl) (fun _ _ _ h => h) (by rfl) (Or.inl ⟨by rfl, ?_⟩) hS (fun hS => ?_)
      rotate_left
      · (intro w hSw; (try dsimp only at hSw); go_split_ands; go_simp; try with_reducible rfl)
      try simp only [Act.put, List.setIfInBounds_toArray, List.set_cons_zero, List.set_cons_succ]
      refine anyTill.last (i := 4) (oi := { dst := some 42, op := Op.move (Operand.tmp 7), type := 22, pos := "slices.go:528", after := #[], guard := none }) (v := ?_) rfl (by kernel_rfl) (by kernel_rfl) (by kernel_rfl) (fun _ _ _ h => h) (by rfl) (Or.inl ⟨by rfl, ?_⟩) hS (fun hS => ?_)
      rotate_left
      · (intro w hSw; (try dsimp only at hSw); go_split_ands; go_simp; try with_reducible rfl)
      try simp only [Act.put, List.setIfInBounds_toArray, List.set_cons_zero, List.set_cons_succ]
      refine anyTill.last (i := 5) (oi := { dst := some 43, op := Op.move (Operand.tmp 8), type := 3, pos := "slices.go:528", after := #[], guard := none }) (v := ?_) rfl (by kernel_rfl) (by kernel_rfl) (by kernel_rfl) (fun _ _ _ h => h) (by rfl) (Or.inl ⟨by rfl, ?_⟩) hS (fun hS => ?_)
      rotate_left
      · (intro w hSw; (try dsimp only at hSw); go_split_ands; go_simp; try with_reducible rfl)
      try simp only [Act.put, List.setIfInBounds_toArray, List.set_cons_zero, List.set_cons_succ]
      refine anyTill.last (i := 6) (oi := { dst := some 44, op := Op.slice 22 (Operand.tmp 42) none (some (Operand.tmp 43)) none, type := 22, pos := "slices.go:528", after := #[{ on := 4, ground := Ground.data }, { on := 5, ground := Ground.data }], guard := none }) (v := ?_) rfl (by kernel_rfl) (by kernel_rfl) (by kernel_rfl) (fun _ _ _ h => h) (by rfl) (Or.inl ⟨by rfl, ?_⟩) hS (fun hS => ?_)
      rotate_left
      · (intro w hSw; (try dsimp only at hSw); go_split_ands; go_simp; try with_reducible rfl)
      try simp only [Act.put, List.setIfInBounds_toArray, List.set_cons_zero, List.set_cons_succ]
      refine anyTill.ready (rs := [7]) (by kernel_rfl) (by simp) ?_
      refine AllTill.cons (o := { dst := some 45, op := Op.call { callee := Callee.builtin Builtin.copy, args := #[Operand.tmp 41, Operand.tmp 44], argTypes := #[22, 22] }, type := 3, pos := "slices.go:528", after := #[{ on := 3, ground := Ground.data }, { on := 6, ground := Ground.data }], guard := none }) rfl (fun K hK => ?_) AllTill.nil
      · clear hS
        refine step_copy_splice rfl (.tmp 41) (.tmp 44) 22 22 rfl 3 Try.underlying22 int_one (some ⟨G, m, none⟩) (some ⟨G, 0, none⟩) (n - m) (n - m) m n (by rfl) (by rfl) G m (zs n) 3 B4h (zs j) hnj (fun _ => ⟨rfl, _, rfl, hcj⟩) hfj (zs_one j) G w hbd (Nat.le_refl _) ?_
        intro w5 B5 hb5
        rw [eIj]
        refine hK.out _ _ (Till.over (by rfl) (by trivial)) (fun hS => ?_)
        clear hK K
        try simp only [Act.put, List.setIfInBounds_toArray, List.set_cons_zero, List.set_cons_succ]
        refine anyTill.last (i := 8) (oi := { dst := some 46, op := Op.binOp BinOp.add 3 (Operand.tmp 38) (Operand.tmp 45) 3, type := 3, pos := "slices.go:528", after := #[{ on := 0, ground := Ground.data }, { on := 7, ground := Ground.data }], guard := none }) (v := ?_) rfl (by kernel_rfl) (by kernel_rfl) (by kernel_rfl) (fun _ _ _ h => h) (by rfl) (Or.inl ⟨by rfl, ?_⟩) hS (fun hS => ?_)
        rotate_left
        · (intro w hSw; (try dsimp only at hSw); go_split_ands; go_simp; try with_reducible rfl)
        try simp only [Act.put, List.setIfInBounds_toArray, List.set_cons_zero, List.set_cons_succ]
        refine anyTill.last (i := 9) (oi := { dst := some 8, op := Op.assign (Operand.tmp 46), type := 3, pos := "slices.go:528", after := #[{ on := 8, ground := Ground.data }, { on := 7, ground := Ground.chain }, { on := 0, ground := Ground.phase }, { on := 1, ground := Ground.phase }, { on := 2, ground := Ground.phase }, { on := 3, ground := Ground.phase }, { on := 4, ground := Ground.phase }, { on := 5, ground := Ground.phase }, { on := 6, ground := Ground.phase }, { on := 7, ground := Ground.phase }, { on := 8, ground := Ground.phase }], guard := none }) (v := ?_) rfl (by kernel_rfl) (by kernel_rfl) (by kernel_rfl) (fun _ _ _ h => h) (by rfl) (Or.inl ⟨by rfl, ?_⟩) hS (fun hS => ?_)
        rotate_left
        · (intro w hSw; (try dsimp only at hSw); go_split_ands; go_simp; try with_reducible rfl)
        try simp only [Act.put, List.setIfInBounds_toArray, List.set_cons_zero, List.set_cons_succ]
        refine anyTill.fin (by kernel_rfl) ?_ _
        go_wp2_with fail
        go_roundw
        case rel => exact ⟨m + j, by omega, hj2, by go_num, by have := B5.out; rw [zs_splice hj2] at this; exact this, hb5⟩
        case measure => simp [intOf]; omega
    · obtain rfl : m = n := by omega
      go_wp2_with fail
      go_ret
      exact ⟨_, rfl, by rw [HG.out]; exact (by simpa [zs, ints] using Own.of_blk (base := G) (n := m) B4 (Nat.le_refl _) (by simp only [maxLen]; omega) (by simp [zs])), by rw [HG.out]; exact hb4⟩
end Go.Proofs.Ytjmkejindmgckaa
