/- Proves the parts of the claim that its last text joins: InsR. Conditions: those that each theorem names. -/
import Derived.Test.YtjpbjghdplbdcaaGreatDoorM11
import Derived.Test.YtjpbjghdplbdcaaGreatDoorProg
import Derived.Test.YtjpbjghdplbdcaaGreatDoorM02
import Derived.Test.YtjpbjghdplbdcaaGreatDoorM04
import Derived.Lib.Overlaps
import Derived.Lib.AppendZerosOnto
import Derived.Laws.NewBlocks
import Derived.Laws.Externs
import Derived.Laws.IdiomCopy
import Derived.Lib.SliceRun
import Derived.WalkKit
import Derived.WalkSpells
import Derived.Shelf.RegionOpenPlain
import Derived.Shelf.Spec.SlicesInsert
import Derived.Test.YtjpbjghdplbdcaaGreatDoorM05
section
namespace Go.Proofs.YtjpbjghdplbdcaaGreatDoor
open Go.RowKit Go.Shelf
theorem T_rule : ElemT Tryz.prog 48 132 (.agg #[.string ⟨#[]⟩, .int .i64 0, .int .i64 0]) 3 32 := ⟨Tryz.underlying48, by kernel_rfl, rfl, by decide⟩

theorem R_len (x : Rl) : (rlV x).length = 3 := rfl
theorem R_ones (x : Rl) : ∀ v ∈ rlV x, v.oneCell' = true := by
  have := rls_one [x]
  intro v hv
  exact this v (by simpa [rls] using hv)
section
variable {w : World} {base n c vb i g : Nat} {xs : List Rl} {x : Rl}
set_option maxHeartbeats 4000000 in
set_option maxRecDepth 100000 in
theorem insR_end {A : Option Addr} (own : Own w base 132 3 A n c (rls xs)) (hv : Blk w vb 132 #[.string x.1, .int .i64 x.2.1, .int .i64 x.2.2]) (hbase : base ≤ w.heap.size) (hn : n ≤ 1000) :
    Calls Tryz.prog 253 #[.slice A n c, .int .i64 n, .slice (some ⟨vb, 0, none⟩) 1 1] w fun e w' => ∃ A' c', e = .returned (.slice A' (n + 1) c') ∧ Own w' base 132 3 A' (n + 1) c' (rls (xs ++ [x])) ∧ w.grownBy w' (blockOf A) := by
  have hsv : Sl w w.heap.size 3 (some ⟨vb, 0, none⟩) 1 1 (rls [x]) := Sl.blk 3 1 (e := 132) hv rfl (by simp [maxLen])
  have hcap := own.cap
  have hc63 : c ≤ 9223372036854775807 := by have := hcap.2; simpa [maxLen] using this
  have key : ∀ (A' : Option Addr) (c' : Nat) (w' : World), Apped w w' base 132 3 A A' (n + 1) c' (rls xs ++ rls [x]) → ∃ A'' c'', (Ending.returned (.slice A' (n + 1) c')) = .returned (.slice A'' (n + 1) c'') ∧ Own w' base 132 3 A'' (n + 1) c'' (rls (xs ++ [x])) ∧ w.grownBy w' (blockOf A) := by
    intro A' c' w' ap
    refine ⟨A', c', rfl, ?_, ap.grow⟩
    have := ap.own
    simpa [rls] using this
  have KEY := hide key
  clear key
  rcases A with _ | ad
  · have h0 := own.sl.nul rfl
    subst h0
    have hn0 : n = 0 := by have := hcap.1; omega
    subst hn0
    go_enter Tryz.func253, Tryz.ntmps253
    go_wp2_with (at_builtin; refine wpList_append_sl T_rule rfl _ _ rfl (by rfl) (by rfl) own hsv (rls_one _) (by simp [maxLen]) (by omega) (by omega) ?_; intro A2 c2 w1 ap)
    go_ret
    exact KEY.out _ _ _ ap
  · obtain ⟨g, off, sp⟩ := ad
    have hn1 : n ≤ c := hcap.1
    by_cases hcn : c = n
    · subst hcn
      go_enter Tryz.func253, Tryz.ntmps253
      go_wp2_with (at_builtin; refine wpList_append_sl T_rule rfl _ _ rfl (by rfl) (by rfl) own hsv (rls_one _) (by simp only [maxLen]; omega) (by omega) (by omega) ?_; intro A2 c2 w1 ap)
      go_ret
      exact KEY.out _ _ _ ap
    · have hcn2 : ¬ (c = n) := hcn
      go_enter Tryz.func253, Tryz.ntmps253
      go_wp2_with (at_builtin; refine wpList_append_sl T_rule rfl _ _ rfl (by rfl) (by rfl) own hsv (rls_one _) (by simp only [maxLen]; omega) (by omega) (by omega) ?_; intro A2 c2 w1 ap)
      go_ret
      exact KEY.out _ _ _ ap
set_option maxHeartbeats 4000000 in
set_option maxRecDepth 100000 in
theorem insR_shift (own : Own w base 132 3 (some ⟨g, 0, none⟩) n c (rls xs)) (hv : Blk w vb 132 #[.string x.1, .int .i64 x.2.1, .int .i64 x.2.2]) (hap : vb ≠ g) (hi : i < n) (hroom : n + 1 ≤ c) :
    Calls Tryz.prog 253 #[.slice (some ⟨g, 0, none⟩) n c, .int .i64 i, .slice (some ⟨vb, 0, none⟩) 1 1] w fun e w' =>
      e = .returned (.slice (some ⟨g, 0, none⟩) (n + 1) c) ∧ w' = (w.drew.setCells g ((i + 1) * 3) ((rls xs).drop (i * 3))).setCells g (i * 3) (rlV x) := by
  have mixed : Tryz.prog.follows .mixedOrders = true := by kernel_rfl
  have hcap := own.cap
  have hc63 : c ≤ 9223372036854775807 := by have := hcap.2; simpa [maxLen] using this
  have hxl : xs.length = n := own.sl.rlen
  have hl : (rls xs).length = n * 3 := by rw [rls_len, hxl]
  obtain ⟨g', cur, hg', hg, hh, hs, hx⟩ := own.row (by omega)
  injection hg' with hg'
  injection hg' with hg'
  subst hg'
  have hcell : ∀ j, j < c * 3 → (w.cell? ⟨g, j, none⟩).isSome = true := by
    intro j hj
    rw [cell_of_row w g j cur _ (0, 0) hh, Array.getElem?_eq_getElem (by omega)]
    rfl
  have hfz : ∀ j, w.frozen? ⟨g, j, none⟩ = false := fun j => frozen_of_row w g j cur _ hh
  obtain ⟨tA, kA, hsa, _⟩ := hv.shape (by show 0 < 3; decide)
  obtain ⟨tB, kB, hsb, hkB⟩ := (show Blk w g _ cur from hh).shape (by omega)
  have hsz : (Tryz.prog.info? 132).map (·.size) = some 3 := by
    obtain ⟨i0, hi0, h0, h1, h2⟩ := info_parts T_rule.info
    rw [hi0]; simp [h1]
  have hov : ∀ lb cb, (callFunc 311 #[.slice (some ⟨vb, 0, none⟩) 1 1, .slice (some ⟨g, (i + 1) * 3, none⟩) lb cb]).run Tryz.prog w = .ok (.value (.bool false)) w := fun lb cb => by
    rw [run_callFunc_extern Tryz.func311 (by kernel_rfl) (by kernel_rfl) (by kernel_rfl) (e := Extern.SlicesOverlaps.overlaps #[48, 48] #[4]) (by kernel_rfl),
      Lib.run_overlaps_apart w 48 4 132 Tryz.underlying48 3 (fun w => by kernel_rfl) ⟨vb, 0, none⟩ ⟨g, (i + 1) * 3, none⟩ 1 1 lb cb hap tA tB kA kB hsa hsb hkB (hv.free _) (hv.free _)]
    rfl
  have hdl : ((rls xs).drop (i * 3)).length = (n - i) * 3 := by rw [List.length_drop, hl, Nat.sub_mul]
  have hw1 : IntKind.i64.wrap ((i : Int) + 1) = (i : Int) + 1 := by rw [IntKind.wrap_i64]; omega
  have hb1 : (0 : Int) ≤ (i : Int) + 1 := by omega
  have hin : i ≤ n := by omega
  have htn : ((i : Int) + 1).toNat = i + 1 := by omega
  have hb2 : ¬ (c = i + 1) := by omega
  have hb3 : (i : Int) ≤ (n : Int) + 1 := by omega
  have hb4 : ¬ (c = i) := by omega
  have hz2 : ¬ ((i : Int) = (n : Int)) := by omega
  have hmin1 : Nat.min (n + 1 - i) (n - i) = n - i := by simp only [Nat.min_def]; split <;> omega
  have hmin2 : Nat.min 1 (n + 1 - i) = 1 := by simp only [Nat.min_def]; split <;> omega
  have hcp1 : ∀ ty dc sc, (Builtin.copy_ #[48, 48] ty #[.slice (some ⟨g, (i + 1) * 3, none⟩) (n - i) dc, .slice (some ⟨g, i * 3, none⟩) (n + 1 - i) sc]).run Tryz.prog w.drew = .ok (goInt (n - i : Nat)) (w.drew.setCells g ((i + 1) * 3) ((rls xs).drop (i * 3))) := fun ty dc sc =>
    run_copy_cellsK w.drew _ _ ty 132 3 g ((i + 1) * 3) (n - i) dc ⟨g, i * 3, none⟩ (n + 1 - i) sc (n - i) _ Tryz.underlying48 hsz hmin1 hdl
      (fun j v hj => by rw [Addr.add_lit]; exact own.cell (by rwa [List.getElem?_drop] at hj))
      (fun j hj => by exact hcell _ (by rw [hdl, Nat.sub_mul] at hj; have := Nat.mul_le_mul_right 3 hroom; omega)) (fun j hj => hfz _) (fun v hv => rls_one _ v (List.mem_of_mem_drop hv))
  obtain ⟨W1, hW1⟩ : ∃ W1, W1 = w.drew.setCells g ((i + 1) * 3) ((rls xs).drop (i * 3)) := ⟨_, rfl⟩
  have hsp1 : ∀ k, k < c * 3 → (W1.cell? ⟨g, k, none⟩).isSome = true := fun k hk => by
    rw [hW1]
    exact isSome_setCells' g _ _ w.drew (fun j hj => hcell ((i + 1) * 3 + j) (by rw [hdl, Nat.sub_mul] at hj; have := Nat.mul_le_mul_right 3 hroom; omega)) _ (hcell k hk)
  have hcp2 : ∀ (W : World), (∀ x, W.cell? x = W1.cell? x) → (∀ x, W.frozen? x = W1.frozen? x) → ∀ ty dc, (Builtin.copy_ #[48, 48] ty #[.slice (some ⟨g, i * 3, none⟩) (n + 1 - i) dc, .slice (some ⟨vb, 0, none⟩) 1 1]).run Tryz.prog W = .ok (goInt (1 : Nat)) (W.setCells g (i * 3) (rlV x)) := fun W hWc hWf ty dc =>
    run_copy_cellsK W _ _ ty 132 3 g (i * 3) (n + 1 - i) dc ⟨vb, 0, none⟩ 1 1 1 (rlV x) Tryz.underlying48 hsz hmin2 rfl
      (fun j v hj => by
        rw [Addr.add_lit, hWc, hW1, World.cell?_setCells_out g _ _ _ _ (fun h _ => absurd h hap), Nat.zero_add]
        exact hv.at_ (i := j) (show (rlV x).toArray[j]? = some v by rw [List.getElem?_toArray]; exact hj))
      (fun j hj => by rw [hWc]; exact hsp1 _ (by rw [R_len] at hj; have := Nat.mul_le_mul_right 3 hroom; omega)) (fun j hj => by rw [hWf, hW1, World.frozen?_setCells]; exact hfz _) (R_ones x)
  rw [← hW1] at hcp1 ⊢
  have hW1h := hide hW1
  clear hW1 hmin1 hmin2 hdl hl hxl hx hcap hs hh
  go_enter Tryz.func253, Tryz.ntmps253
  go_wp2_with (simp only [hov])
  go_region_law_o (refine step_copy_runI rfl _ _ 48 48 rfl _ _ (by simp [Act.eval, Act.put]) (by simp [Act.eval, Act.put]) (hcp1 _ _ _) ?_)
  go_wp2_with (at_builtin; refine wpList_copy_runI _ rfl _ _ 48 48 rfl _ _ rfl rfl (hcp2 _ (fun _ => rfl) (fun _ => rfl) _ _) ?_)
  go_ret
  first | exact ⟨rfl, rfl⟩ | exact ⟨rfl, by rw [hW1h.out]⟩
set_option maxHeartbeats 4000000 in
set_option maxRecDepth 100000 in
theorem insR_grow (own : Own w base 132 3 (some ⟨g, 0, none⟩) n c (rls xs)) (hv : Blk w vb 132 #[.string x.1, .int .i64 x.2.1, .int .i64 x.2.2]) (hi : i < n) (hroom : c < n + 1) (hn : n ≤ 1000) :
    Calls Tryz.prog 253 #[.slice (some ⟨g, 0, none⟩) n c, .int .i64 i, .slice (some ⟨vb, 0, none⟩) 1 1] w fun e w' =>
      e = .returned (.slice (some ⟨w.heap.size, 0, none⟩) (n + 1) (grownCap w (n + 1) c 132)) ∧
      w' = (((w.alloc (.cells (((rls xs).take (i * 3)).toArray ++ Builtin.zeroCells (Value.cells (.agg #[.string ⟨#[]⟩, .int .i64 0, .int .i64 0])) (n + 1 - i) ++ Builtin.zeroCells (Value.cells (.agg #[.string ⟨#[]⟩, .int .i64 0, .int .i64 0])) (grownCap w (n + 1) c 132 - (n + 1))) 132)).drew.setCells w.heap.size (i * 3) (rlV x)).drew).setCells w.heap.size ((i + 1) * 3) ((rls xs).drop (i * 3)) := by
  have mixed : Tryz.prog.follows .mixedOrders = true := by kernel_rfl
  have hcap := own.cap
  have hc63 : c ≤ 9223372036854775807 := by have := hcap.2; simpa [maxLen] using this
  have hxl : xs.length = n := own.sl.rlen
  have hl : (rls xs).length = n * 3 := by rw [rls_len, hxl]
  obtain ⟨i0, hi0, hz0, hzs, hzb⟩ := info_parts T_rule.info
  have hz2 : ¬ ((i : Int) = (n : Int)) := by omega
  have hz3 : (c : Int) < (n : Int) + 1 := by omega
  have hsz : (Tryz.prog.info? 132).map (·.size) = some 3 := by rw [hi0]; simp [hzs]
  have hbw : g < w.heap.size := by
    obtain ⟨g', hg', _, hlt⟩ := own.addr (by omega)
    injection hg' with hg'
    injection hg' with hg'
    omega
  have hvw : vb < w.heap.size := hv.lt
  have hik : i + (n + 1 - i) = n + 1 := by omega
  have hkk : (n : Int) + 1 - (i : Int) = ((n + 1 - i : Nat) : Int) := by omega
  have hold : (Builtin.firstCells i0.size i (.slice (some ⟨g, 0, none⟩) i c)).run Tryz.prog w.drew = .ok ((rls xs).take (i * 3)).toArray w.drew := by
    rw [hzs]
    exact run_firstCells_some w.drew 3 i ⟨g, 0, none⟩ i c ((rls xs).take (i * 3)) (by rw [List.length_take, hl]; exact Nat.min_eq_left (Nat.mul_le_mul_right _ (by omega))) (fun j v hj => by
      rw [Addr.add_lit, Nat.zero_add]
      rw [List.getElem?_take] at hj
      split at hj
      · exact own.cell hj
      · cases hj)
  have hnx : Builtin.nextslicecap (n + 1) c * 32 ≤ 281474976710656 := growslice_fits hroom (by omega)
  have hrz : ∀ ty, (Builtin.append_ #[48, 3] ty #[.slice (some ⟨g, 0, none⟩) i c, .int .i64 ((n : Int) + 1 - (i : Int))]).run Tryz.prog w =
      .ok (.slice (some ⟨w.heap.size, 0, none⟩) (n + 1) (grownCap w (n + 1) c 132)) (w.drew.alloc (.cells (((rls xs).take (i * 3)).toArray ++ Builtin.zeroCells (Value.cells (.agg #[.string ⟨#[]⟩, .int .i64 0, .int .i64 0])) (n + 1 - i) ++ Builtin.zeroCells (Value.cells (.agg #[.string ⟨#[]⟩, .int .i64 0, .int .i64 0])) (grownCap w (n + 1) c 132 - (n + 1))) 132)) := fun ty => by
    have h := Lib.run_append_grow_zeros w 48 3 ty 132 i0 _ .i64 .i64 Tryz.underlying48 Tryz.underlying3 hi0 hz0 (some ⟨g, 0, none⟩) i c ((rls xs).take (i * 3)) hold (n + 1 - i) (by omega) (by omega) (by omega) (by omega) (by rw [hzb]; omega) (by rw [hzb, hik]; exact hnx)
    rw [hik] at h
    rw [hkk]
    exact h
  obtain ⟨G, hG⟩ : ∃ G, G = grownCap w (n + 1) c 132 := ⟨_, rfl⟩
  obtain ⟨ROW, hROW⟩ : ∃ ROW : Array Value, ROW = ((rls xs).take (i * 3)).toArray ++ Builtin.zeroCells (Value.cells (.agg #[.string ⟨#[]⟩, .int .i64 0, .int .i64 0])) (n + 1 - i) ++ Builtin.zeroCells (Value.cells (.agg #[.string ⟨#[]⟩, .int .i64 0, .int .i64 0])) (G - (n + 1)) := ⟨_, rfl⟩
  rw [← hG] at hrz ⊢
  rw [← hROW] at hrz ⊢
  have hRl : (n + 1) * 3 ≤ ROW.size := by
    rw [hROW]
    have e1 : ((rls xs).take (i * 3)).length = i * 3 := by rw [List.length_take, hl]; exact Nat.min_eq_left (Nat.mul_le_mul_right _ (by omega))
    rw [Array.size_append, Array.size_append, size_zeroCells, List.size_toArray, e1, T_rule.zs]
    have e2 : (n + 1 - i) * 3 = (n + 1) * 3 - i * 3 := Nat.sub_mul _ _ _
    omega
  obtain ⟨W1, hW1⟩ : ∃ W1, W1 = w.drew.alloc (.cells ROW 132) := ⟨_, rfl⟩
  rw [← hW1] at hrz
  have hN : ∀ j, j < (n + 1) * 3 → (W1.cell? ⟨w.heap.size, j, none⟩).isSome = true := fun j hj => by
    rw [hW1, World.cell?_alloc_at (w := w.drew) ROW _ w.heap.size j rfl, Array.getElem?_eq_getElem (by omega)]; rfl
  have hNf : ∀ j, W1.frozen? ⟨w.heap.size, j, none⟩ = false := fun j => by rw [hW1]; exact World.frozen?_alloc_at (w := w.drew) ROW _ w.heap.size j rfl
  have hOb : ∀ j v, w.cell? ⟨g, j, none⟩ = some v → W1.cell? ⟨g, j, none⟩ = some v := fun j v h => by rw [hW1, World.cell?_alloc_past (w := w.drew) _ g j hbw]; exact h
  have hOv : ∀ j v, w.cell? ⟨vb, j, none⟩ = some v → W1.cell? ⟨vb, j, none⟩ = some v := fun j v h => by rw [hW1, World.cell?_alloc_past (w := w.drew) _ vb j hvw]; exact h
  have hmin1 : Nat.min (n - i) (n - i) = n - i := Nat.min_self _
  have hmin2 : Nat.min 1 (n + 1 - i) = 1 := by simp only [Nat.min_def]; split <;> omega
  have hdl : ((rls xs).drop (i * 3)).length = (n - i) * 3 := by rw [List.length_drop, hl, Nat.sub_mul]
  have hcpA : ∀ (W : World), (∀ x, W.cell? x = W1.cell? x) → (∀ x, W.frozen? x = W1.frozen? x) → ∀ ty dc, (Builtin.copy_ #[48, 48] ty #[.slice (some ⟨w.heap.size, i * 3, none⟩) (n + 1 - i) dc, .slice (some ⟨vb, 0, none⟩) 1 1]).run Tryz.prog W = .ok (goInt (1 : Nat)) (W.setCells w.heap.size (i * 3) (rlV x)) := fun W hWc hWf ty dc =>
    run_copy_cellsK W _ _ ty 132 3 w.heap.size (i * 3) (n + 1 - i) dc ⟨vb, 0, none⟩ 1 1 1 (rlV x) Tryz.underlying48 hsz hmin2 rfl
      (fun j v hj => by rw [Addr.add_lit, hWc, Nat.zero_add]; exact hOv _ v (hv.at_ (i := j) (show (rlV x).toArray[j]? = some v by rw [List.getElem?_toArray]; exact hj)))
      (fun j hj => by rw [hWc]; exact hN (i * 3 + j) (by rw [R_len] at hj; have := Nat.mul_le_mul_right 3 hi; omega)) (fun j hj => by rw [hWf]; exact hNf _) (R_ones x)
  have hGn : n + 1 ≤ G := by rw [hG]; exact grownCap_ge w _ _ _
  have hG63 : G ≤ 9223372036854775807 := by
    have := grownCap_le_maxLen w (n + 1) c 132 (by unfold maxLen; omega)
    rw [← hG] at this
    unfold maxLen at this
    omega
  have hGi : ¬ (G = i) := by omega
  have hGim : ¬ (G = i + 1) := by omega
  have hci : ¬ (c = i) := by omega
  have hbN : g ≠ w.heap.size := by omega
  have hcpB : ∀ (W : World), (∀ y, W.cell? y = (W1.setCells w.heap.size (i * 3) (rlV x)).cell? y) → (∀ y, W.frozen? y = (W1.setCells w.heap.size (i * 3) (rlV x)).frozen? y) → ∀ ty dc sc, (Builtin.copy_ #[48, 48] ty #[.slice (some ⟨w.heap.size, (i + 1) * 3, none⟩) (n - i) dc, .slice (some ⟨g, i * 3, none⟩) (n - i) sc]).run Tryz.prog W = .ok (goInt (n - i : Nat)) (W.setCells w.heap.size ((i + 1) * 3) ((rls xs).drop (i * 3))) := fun W hWc hWf ty dc sc =>
    run_copy_cellsK W _ _ ty 132 3 w.heap.size ((i + 1) * 3) (n - i) dc ⟨g, i * 3, none⟩ (n - i) sc (n - i) _ Tryz.underlying48 hsz hmin1 hdl
      (fun j v hj => by
        rw [Addr.add_lit, hWc, World.cell?_setCells_out _ _ _ _ _ (fun h _ => absurd h hbN)]
        exact hOb _ v (own.cell (by rwa [List.getElem?_drop] at hj)))
      (fun j hj => by rw [hWc]; exact isSome_setCells' _ _ _ _ (fun t ht => hN (i * 3 + t) (by rw [R_len] at ht; have := Nat.mul_le_mul_right 3 hi; omega)) _ (hN ((i + 1) * 3 + j) (by rw [hdl, Nat.sub_mul] at hj; omega)))
      (fun j hj => by rw [hWf, World.frozen?_setCells]; exact hNf _) (fun v hv => rls_one _ v (List.mem_of_mem_drop hv))
  subst hW1
  have hE1 : ∀ x, ((w.alloc (.cells ROW 132)).drew).cell? x = (w.drew.alloc (.cells ROW 132)).cell? x := fun x => rfl
  have hE2 : ∀ x, ((w.alloc (.cells ROW 132)).drew).frozen? x = (w.drew.alloc (.cells ROW 132)).frozen? x := fun x => rfl
  have hF1 : ∀ y, (((w.alloc (.cells ROW 132)).drew.setCells w.heap.size (i * 3) (rlV x)).drew).cell? y = ((w.drew.alloc (.cells ROW 132)).setCells w.heap.size (i * 3) (rlV x)).cell? y := fun y => rfl
  have hF2 : ∀ y, (((w.alloc (.cells ROW 132)).drew.setCells w.heap.size (i * 3) (rlV x)).drew).frozen? y = ((w.drew.alloc (.cells ROW 132)).setCells w.heap.size (i * 3) (rlV x)).frozen? y := fun y => rfl
  have hw1 : IntKind.i64.wrap ((i : Int) + 1) = (i : Int) + 1 := by rw [IntKind.wrap_i64]; omega
  have hb1 : (0 : Int) ≤ (i : Int) + 1 := by omega
  have hin : i ≤ n := by omega
  have htn : ((i : Int) + 1).toNat = i + 1 := by omega
  have hb3 : (i : Int) ≤ (n : Int) := by omega
  have hic : i ≤ c := by have := hcap.1; omega
  clear hkk hik hold hROW hG hRl hmin1 hmin2 hdl hl hxl hcap hnx
  go_enter Tryz.func253, Tryz.ntmps253
  go_wp2_with (first
    | (at_builtin; refine Lib.wpList_append_run _ rfl _ _ _ _ rfl _ _ rfl rfl _ _ (hrz _) ?_)
    | (at_builtin; refine wpList_copy_runI _ rfl _ _ 48 48 rfl _ _ rfl rfl (hcpA _ hE1 hE2 _ _) ?_)
    | (at_builtin; refine wpList_copy_runI _ rfl _ _ 48 48 rfl _ _ rfl rfl (hcpB _ (fun _ => rfl) (fun _ => rfl) _ _ _) ?_))
  go_region_law_o (refine step_copy_runI rfl _ _ 48 48 rfl (.slice (some ⟨w.heap.size, (i + 1) * 3, none⟩) (n - i) (G - (i + 1))) (.slice (some ⟨g, i * 3, none⟩) (n - i) (c - i)) (by simp [Act.eval, Act.put]) (by simp [Act.eval, Act.put]) (hcpB _ hF1 hF2 132 (G - (i + 1)) (c - i)) ?_)
  go_wp2
  go_ret
  exact ⟨rfl, rfl⟩
theorem insR {A : Option Addr} (own : Own w base 132 3 A n c (rls xs)) (hv : Blk w vb 132 #[.string x.1, .int .i64 x.2.1, .int .i64 x.2.2]) (hap : blockOf A ≠ some vb) (hi : i ≤ n) (hbase : base ≤ w.heap.size) (hn : n ≤ 1000) :
    Calls Tryz.prog 253 #[.slice A n c, .int .i64 i, .slice (some ⟨vb, 0, none⟩) 1 1] w fun e w' => ∃ A' c', e = .returned (.slice A' (n + 1) c') ∧ Own w' base 132 3 A' (n + 1) c' (rls (xs.take i ++ x :: xs.drop i)) ∧ w.grownBy w' (blockOf A) := by
  have hxl : xs.length = n := own.sl.rlen
  have hl : (rls xs).length = n * 3 := by rw [rls_len, hxl]
  have hcap := own.cap
  have hk1 : (n + 1) * 3 = n * 3 + 3 := Nat.succ_mul _ _
  have hk2 : (i + 1) * 3 = i * 3 + 3 := Nat.succ_mul _ _
  have hk3 : i * 3 ≤ n * 3 := Nat.mul_le_mul_right _ hi
  have hfin : rls (xs.take i ++ x :: xs.drop i) = (rls xs).take (i * 3) ++ rlV x ++ (rls xs).drop (i * 3) := flat_ins (f := rlV) (size := 3) (fun _ => rfl) xs x i
  have hrd : ∀ row, w.grownBy w.drew row := fun row => ⟨rfl, rfl, rfl, Nat.le_refl _, fun _ _ _ => rfl⟩
  have hgd : ∀ {w w' : World} {row : Option Nat}, w.grownBy w' row → w.grownBy w'.drew row := fun h => ⟨h.os, h.tape, h.output, h.size, h.block⟩
  by_cases he : i = n
  · subst he
    rw [List.take_of_length_le (by omega : xs.length ≤ i), List.drop_of_length_le (by omega : xs.length ≤ i)]
    exact insR_end own hv hbase hn
  · by_cases hroom : n + 1 ≤ c
    · obtain ⟨g, cur, rfl, hg, hh, hs, hx⟩ := own.row (by omega)
      have hvg : vb ≠ g := fun e => hap (by rw [e]; rfl)
      refine (insR_shift own hv hvg (by omega) hroom).mono ?_
      rintro e w' ⟨rfl, rfl⟩
      have hh' : w.drew.heap[g]? = some (.cells cur 132 (0, 0)) := hh
      obtain ⟨h2, h3⟩ := heap_setCells g _ ((rls xs).drop (i * 3)) ((i + 1) * 3) w.drew cur hh'
      obtain ⟨h4, h5⟩ := heap_setCells g _ (rlV x) (i * 3) _ _ h2
      refine ⟨_, c, rfl, Own.of_row hg h4 (by simp [layAt_len, hs]) hroom hcap.2 ?_, (hrd _).trans (h3.trans h5)⟩
      rw [hfin, hk1]
      simp only [List.toList_toArray]
      rw [hk2]
      exact lay_room hx rfl hk3 (by rw [Array.length_toList, hs, ← hk1]; exact Nat.mul_le_mul_right _ hroom)
    · obtain ⟨g, rfl, hg, _⟩ := own.addr (by omega)
      refine (insR_grow own hv (by omega) (by omega) hn).mono ?_
      rintro e w' ⟨rfl, rfl⟩
      have hgc : n + 1 ≤ grownCap w (n + 1) c 132 := grownCap_ge _ _ _ _
      have hgm : grownCap w (n + 1) c 132 ≤ maxLen := grownCap_le_maxLen _ _ _ _ (by simp only [maxLen]; omega)
      obtain ⟨G, hG⟩ : ∃ G, grownCap w (n + 1) c 132 = G := ⟨_, rfl⟩
      rw [hG] at hgc hgm ⊢
      have hz : ∀ m, (Builtin.zeroCells (Value.cells (.agg #[.string ⟨#[]⟩, .int .i64 0, .int .i64 0])) m).size = m * 3 := fun m => by rw [size_zeroCells, T_rule.zs]
      obtain ⟨zs, hzs, hzl⟩ : ∃ zs : List Value, (Builtin.zeroCells (Value.cells (.agg #[.string ⟨#[]⟩, .int .i64 0, .int .i64 0])) (n + 1 - i)).toList = zs ∧ zs.length = (n + 1 - i) * 3 := ⟨_, rfl, by rw [Array.length_toList, hz]⟩
      obtain ⟨ys, hys, hyl⟩ : ∃ ys : List Value, (Builtin.zeroCells (Value.cells (.agg #[.string ⟨#[]⟩, .int .i64 0, .int .i64 0])) (G - (n + 1))).toList = ys ∧ ys.length = (G - (n + 1)) * 3 := ⟨_, rfl, by rw [Array.length_toList, hz]⟩
      obtain ⟨ROW, hROW⟩ : ∃ ROW : Array Value, ((rls xs).take (i * 3)).toArray ++ Builtin.zeroCells (Value.cells (.agg #[.string ⟨#[]⟩, .int .i64 0, .int .i64 0])) (n + 1 - i) ++ Builtin.zeroCells (Value.cells (.agg #[.string ⟨#[]⟩, .int .i64 0, .int .i64 0])) (G - (n + 1)) = ROW := ⟨_, rfl⟩
      have hRl : ROW.toList = (rls xs).take (i * 3) ++ zs ++ ys := by rw [← hROW, Array.toList_append, Array.toList_append, hzs, hys]
      rw [hROW]
      have htl : ((rls xs).take (i * 3)).length = i * 3 := by rw [List.length_take, hl, Nat.min_eq_left hk3]
      have hmz : (n + 1 - i) * 3 = n * 3 + 3 - i * 3 := by rw [Nat.sub_mul, hk1]
      have hmy : (G - (n + 1)) * 3 = G * 3 - (n + 1) * 3 := Nat.sub_mul _ _ _
      have hGk : (n + 1) * 3 ≤ G * 3 := Nat.mul_le_mul_right _ hgc
      have hRs : ROW.size = G * 3 := by
        rw [← Array.length_toList, hRl, List.length_append, List.length_append, htl, hzl, hyl]
        omega
      have hh := heap_alloc_new w (.cells ROW 132)
      obtain ⟨h2, h3⟩ := heap_setCells w.heap.size _ (rlV x) (i * 3) (w.alloc (.cells ROW 132)).drew _ hh
      obtain ⟨h4, h5⟩ := heap_setCells w.heap.size _ ((rls xs).drop (i * 3)) ((i + 1) * 3) ((w.alloc (.cells ROW 132)).drew.setCells w.heap.size (i * 3) (rlV x)).drew _ h2
      have hb1 : w.grownBy (w.alloc (.cells ROW 132)).drew (some g) := hgd (World.grownBy_alloc _ _ _)
      have hb2 := World.grownBy.andThen hb1 h3 (fun j hj => by injection hj with hj; left; omega)
      have hb3 := World.grownBy.andThen (hgd hb2) h5 (fun j hj => by injection hj with hj; left; omega)
      refine ⟨_, _, rfl, Own.of_row hbase h4 (by simp [layAt_len]; exact hRs) hgc hgm ?_, hb3⟩
      rw [hfin, hk1]
      simp only [List.toList_toArray]
      rw [hk2, hRl]
      exact lay_grow hl rfl hk3 (by rw [hzl]; exact hmz)
end
end Go.Proofs.YtjpbjghdplbdcaaGreatDoor
end
