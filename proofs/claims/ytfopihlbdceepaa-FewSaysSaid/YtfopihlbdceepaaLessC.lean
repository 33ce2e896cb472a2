/-
  culref.Fewer's order, and sort.Slice at counters by it. Conditions: the row's length.
-/
import Derived.Test.YtfopihlbdceepaaCounts
import Derived.Shelf.SlSortFuncK.WholeK
import Derived.Shelf.GgSortFunc.Tiny
namespace Go.Proofs.Ytfopihlbdceepaa
open Go.Shelf Go.RowKit Go.Lib

def svc6_ren : Go.Shelf.Ren := ⟨fun | 6 => 31 | 10 => 57 | 11 => 58 | 12 => 59 | 13 => 60 | 14 => 61 | 24 => 80 | 25 => 81 | 26 => 82 | 27 => 83 | 28 => 84 | 29 => 85 | 30 => 86 | 31 => 87 | 32 => 88 | 33 => 89 | 34 => 103 | 35 => 104 | 36 => 105 | 37 => 106 | 38 => 107 | 39 => 112 | n => n, fun | 20 => 20 | 26 => 64 | 35 => 94 | 0 => 0 | 37 => 96 | 3 => 3 | 41 => 100 | 44 => 103 | 49 => 118 | 51 => 120 | 4 => 4 | 54 => 123 | 53 => 122 | 58 => 54 | 5 => 5 | 9 => 9 | 60 => 136 | 64 => 140 | 66 => 144 | 67 => 145 | 17 => 17 | 32 => 91 | 33 => 92 | 82 => 162 | 12 => 12 | 75 => 155 | 76 => 156 | 77 => 157 | 78 => 158 | 79 => 159 | 80 => 160 | n => n, fun | n => n⟩
theorem svc6 : Go.Proofs.LaysGg.n6 Try.prog svc6_ren := {
  mixed := by kernel_rfl
  f6 := Try.func31.trans (congrArg some (by kernel_rfl))
  f10 := Try.func57.trans (congrArg some (by kernel_rfl))
  f11 := Try.func58.trans (congrArg some (by kernel_rfl))
  f12 := Try.func59.trans (congrArg some (by kernel_rfl))
  f13 := Try.func60.trans (congrArg some (by kernel_rfl))
  f14 := Try.func61.trans (congrArg some (by kernel_rfl))
  f24 := Try.func80.trans (congrArg some (by kernel_rfl))
  f25 := Try.func81.trans (congrArg some (by kernel_rfl))
  f26 := Try.func82.trans (congrArg some (by kernel_rfl))
  f27 := Try.func83.trans (congrArg some (by kernel_rfl))
  f28 := Try.func84.trans (congrArg some (by kernel_rfl))
  f29 := Try.func85.trans (congrArg some (by kernel_rfl))
  f30 := Try.func86.trans (congrArg some (by kernel_rfl))
  f31 := Try.func87.trans (congrArg some (by kernel_rfl))
  f32 := Try.func88.trans (congrArg some (by kernel_rfl))
  f33 := Try.func89.trans (congrArg some (by kernel_rfl))
  f34 := Try.func103.trans (congrArg some (by kernel_rfl))
  f35 := Try.func104.trans (congrArg some (by kernel_rfl))
  f36 := Try.func105.trans (congrArg some (by kernel_rfl))
  f37 := Try.func106.trans (congrArg some (by kernel_rfl))
  f38 := Try.func107.trans (congrArg some (by kernel_rfl))
  f39 := Try.func112.trans (congrArg some (by kernel_rfl))
  t0 := Try.underlying0
  a0 := Try.isAgg0
  z0 := Try.sizeOf0
  v0 := Try.zeroValue0
  i0 := by kernel_rfl
  t3 := Try.underlying3
  a3 := Try.isAgg3
  z3 := Try.sizeOf3
  v3 := Try.zeroValue3
  i3 := by kernel_rfl
  t4 := Try.underlying4
  a4 := Try.isAgg4
  z4 := Try.sizeOf4
  v4 := Try.zeroValue4
  i4 := by kernel_rfl
  t5 := Try.underlying5
  a5 := Try.isAgg5
  z5 := Try.sizeOf5
  v5 := Try.zeroValue5
  i5 := by kernel_rfl
  t9 := Try.underlying9
  a9 := Try.isAgg9
  z9 := Try.sizeOf9
  v9 := Try.zeroValue9
  i9 := by kernel_rfl
  t12 := Try.underlying12
  a12 := Try.isAgg12
  z12 := Try.sizeOf12
  v12 := Try.zeroValue12
  i12 := by kernel_rfl
  t17 := Try.underlying17
  a17 := Try.isAgg17
  z17 := Try.sizeOf17
  v17 := Try.zeroValue17
  i17 := by kernel_rfl
  t20 := Try.underlying20
  a20 := Try.isAgg20
  z20 := Try.sizeOf20
  v20 := Try.zeroValue20
  i20 := by kernel_rfl
  t26 := Try.underlying64
  a26 := Try.isAgg64
  z26 := Try.sizeOf64
  v26 := Try.zeroValue64
  i26 := by kernel_rfl
  t32 := Try.underlying91
  a32 := Try.isAgg91
  z32 := Try.sizeOf91
  v32 := Try.zeroValue91
  i32 := by kernel_rfl
  t33 := Try.underlying92
  a33 := Try.isAgg92
  z33 := Try.sizeOf92
  v33 := Try.zeroValue92
  i33 := by kernel_rfl
  t35 := Try.underlying94
  a35 := Try.isAgg94
  z35 := Try.sizeOf94
  v35 := Try.zeroValue94
  i35 := by kernel_rfl
  t37 := Try.underlying96
  a37 := Try.isAgg96
  z37 := Try.sizeOf96
  v37 := Try.zeroValue96
  i37 := by kernel_rfl
  t41 := Try.underlying100
  a41 := Try.isAgg100
  z41 := Try.sizeOf100
  v41 := Try.zeroValue100
  i41 := by kernel_rfl
  t44 := Try.underlying103
  a44 := Try.isAgg103
  z44 := Try.sizeOf103
  v44 := Try.zeroValue103
  i44 := by kernel_rfl
  t49 := Try.underlying118
  a49 := Try.isAgg118
  z49 := Try.sizeOf118
  v49 := Try.zeroValue118
  i49 := by kernel_rfl
  t51 := Try.underlying120
  a51 := Try.isAgg120
  z51 := Try.sizeOf120
  v51 := Try.zeroValue120
  i51 := by kernel_rfl
  t53 := Try.underlying122
  a53 := Try.isAgg122
  z53 := Try.sizeOf122
  v53 := Try.zeroValue122
  i53 := by kernel_rfl
  t54 := Try.underlying123
  a54 := Try.isAgg123
  z54 := Try.sizeOf123
  v54 := Try.zeroValue123
  i54 := by kernel_rfl
  t58 := Try.underlying54
  a58 := Try.isAgg54
  z58 := Try.sizeOf54
  v58 := Try.zeroValue54
  i58 := by kernel_rfl
  t60 := Try.underlying136
  a60 := Try.isAgg136
  z60 := Try.sizeOf136
  v60 := Try.zeroValue136
  i60 := by kernel_rfl
  t64 := Try.underlying140
  a64 := Try.isAgg140
  z64 := Try.sizeOf140
  v64 := Try.zeroValue140
  i64 := by kernel_rfl
  t66 := Try.underlying144
  a66 := Try.isAgg144
  z66 := Try.sizeOf144
  v66 := Try.zeroValue144
  i66 := by kernel_rfl
  t67 := Try.underlying145
  a67 := Try.isAgg145
  z67 := Try.sizeOf145
  v67 := Try.zeroValue145
  i67 := by kernel_rfl
  t75 := Try.underlying155
  a75 := Try.isAgg155
  z75 := Try.sizeOf155
  v75 := Try.zeroValue155
  i75 := by kernel_rfl
  t76 := Try.underlying156
  a76 := Try.isAgg156
  z76 := Try.sizeOf156
  v76 := Try.zeroValue156
  i76 := by kernel_rfl
  t77 := Try.underlying157
  a77 := Try.isAgg157
  z77 := Try.sizeOf157
  v77 := Try.zeroValue157
  i77 := by kernel_rfl
  t78 := Try.underlying158
  a78 := Try.isAgg158
  z78 := Try.sizeOf158
  v78 := Try.zeroValue158
  i78 := by kernel_rfl
  t79 := Try.underlying159
  a79 := Try.isAgg159
  z79 := Try.sizeOf159
  v79 := Try.zeroValue159
  i79 := by kernel_rfl
  t80 := Try.underlying160
  a80 := Try.isAgg160
  z80 := Try.sizeOf160
  v80 := Try.zeroValue160
  i80 := by kernel_rfl
  t82 := Try.underlying162
  a82 := Try.isAgg162
  z82 := Try.sizeOf162
  v82 := Try.zeroValue162
  i82 := by kernel_rfl }
noncomputable def svcT : TypeInfo := (Try.prog.info? 36).get (by kernel_rfl)
noncomputable def svcE : TypeInfo := (Try.prog.info? 50).get (by kernel_rfl)
theorem svcK (n : Nat) (h2 : 2 ≤ n) : Lib.swapperK n svcE 25 = 9 := by
  have a : svcE.hasPointers = false := by kernel_rfl
  have b : svcE.bytes = 16 := by kernel_rfl
  have c : (n == 0) = false := by simp; omega
  have d : (n == 1) = false := by simp; omega
  simp [Lib.swapperK, a, b, c, d]
def ltC (r s : Ct) : Bool := decide (r.1 < s.1)
theorem swo_ltC : Sort.SWO ltC where
  irrefl := fun x => by simp [ltC]
  trans := fun x y z h1 h2 => by simp [ltC] at *; omega
  ntrans := fun x y z h1 h2 => by simp [ltC] at *; omega
set_option maxHeartbeats 2000000 in
theorem lessc_is (g c Bs size : Nat) (W : World) (G : Nat → Int) (hs : W.cell? ⟨Bs, 0, none⟩ = some (.slice (some ⟨g, 0, none⟩) size c))
    (hc : ∀ t, t < size → W.cell? ⟨g, t * 2, none⟩ = some (.int .i64 (G t))) (i j : Nat) (hi : i < size) (hj : j < size) (_hsz : size < 4611686018427387904) :
    Calls Try.prog 41 #[.int .i64 i, .int .i64 j, .pointer (some ⟨Bs, 0, none⟩)] W fun e w' => e = .returned (.bool (decide (G i < G j))) ∧ ∃ q, w' = W.drewN q := by
  have ci := hc i hi
  have cj := hc j hj
  generalize G i = a at ci ⊢
  generalize G j = b at cj ⊢
  clear hc
  obtain ⟨B, hB⟩ : ∃ B, decide (a < b) = B := ⟨_, rfl⟩
  rw [hB]
  go_enter Try.func41, Try.ntmps41
  go_wp2
  go_quiet (fail)
  go_wp2
  go_ret
  exact ⟨rfl, nq, rfl⟩
theorem prs_get {o : List Ct} {j : Nat} (hj : j < o.length * 2) : (prs o)[j]? = some (ctV (o.toArray[j / 2]!))[j % 2]! := by
  have h1 : j / 2 < o.length := by omega
  have h2 : o.toArray[j / 2]! = o[j / 2] := by rw [getElem!_pos _ _ (by simpa using h1)]; rfl
  have h3 : j = j / 2 * 2 + j % 2 := by omega
  have h4 : (ctV o[j / 2])[j % 2]? = some (ctV o[j / 2])[j % 2]! := by
    have : j % 2 < 2 := Nat.mod_lt _ (by decide)
    rw [getElem!_pos _ _ (by simpa [ctV] using this)]
    exact List.getElem?_eq_getElem _
  rw [h2]
  have := flat_at (f := ctV) (size := 2) (fun _ => rfl) (List.getElem?_eq_getElem h1) h4
  rwa [← h3] at this
theorem flatK_ct (o : List Ct) {j : Nat} (hj : j < o.length * 2) : (prs o)[j]? = some (id (Sort.flatK ctV 2 o.toArray)[j]!) := by
  rw [prs_get hj, id, Sort.get_flatK _ _ _ _ (by simpa using hj)]
theorem sortedC_grown {w : World} {g n : Nat} {os : Array Obj} (d : Array Ct) : w.grownBy (Sort.grow (Sort.putRowK ctV 2 (Sort.ahead w n) g 0 d) os) (some g) := by
  refine ⟨rfl, rfl, rfl, by simp [Sort.size_putRowK, Sort.ahead], fun k hk hne => ?_⟩
  rw [Sort.heap_grow_old _ _ (by simpa [Sort.size_putRowK, Sort.ahead] using hk)]
  have : g ≠ k := fun e => hne (by rw [e])
  simp [Sort.putRowK, Sort.putRow, Sort.mapBlock, Sort.ahead, Array.getElem?_modify, this]
theorem growC_grown {w : World} {os : Array Obj} (row : Option Nat) : w.grownBy (Sort.grow w os) row := ⟨rfl, rfl, rfl, by simp, fun k hk _ => Sort.heap_grow_old _ _ hk⟩
/-- Behind the sort the row is the call's own still. -/
theorem own_putRow {w : World} {base size n c g q : Nat} {e : TypeId} {xs : List Value} {os : Array Obj} (h : Own w base e size (some ⟨g, 0, none⟩) n c xs) {d : Array Value} (hd : d.size = n * size) :
    Own (Sort.grow (Sort.putRow id (Sort.ahead w q) g 0 d) os) base e size (some ⟨g, 0, none⟩) n c d.toList := by
  rcases h.2 with ⟨e0, _⟩ | ⟨g', cap', cur, e0, hb, hg, hn, hm, hs, ht⟩
  · cases e0
  · injection e0 with e1 _ e3
    injection e1 with e1
    injection e1 with e1
    subst e1; subst e3
    have hgl : g < w.heap.size := (Array.getElem?_eq_some_iff.1 hg).1
    have hle : n * size ≤ c * size := Nat.mul_le_mul_right _ hn
    refine ⟨by simpa using hd, .inr ⟨g, c, Sort.putCells id 0 d cur, rfl, hb, ?_, hn, hm, by simpa [Sort.putCells] using hs, ?_⟩⟩
    · rw [Sort.heap_grow_old _ _ (by simpa [Sort.ahead] using hgl)]
      simp [Sort.putRow, Sort.mapBlock, Sort.ahead, Array.getElem?_modify, hg, Sort.onCells]
    · apply List.ext_getElem?
      intro j
      by_cases hj : j < n * size
      · have hjc : j < cur.size := by omega
        have hjd : j < d.size := by omega
        rw [List.getElem?_take_of_lt hj, Array.getElem?_toList, Array.getElem?_toList]
        simp [Sort.putCells, hjd, hjc]
      · rw [List.getElem?_take_eq_none (by omega), List.getElem?_eq_none (by simp; omega)]
abbrev NoLessC (o : List Ct) : Prop := o.Pairwise fun a b => a.1 ≤ b.1
set_option maxHeartbeats 2000000 in
theorem sort_counters {w : World} {A : Option Addr} {base n c Bs : Nat} {o : List Ct} (own : Own w base 50 2 A n c (prs o)) (hcell : w.cell? ⟨Bs, 0, none⟩ = some (.slice A n c)) (hB : Bs < w.heap.size) (hne : blockOf A ≠ some Bs) (hn : n ≤ 1000) :
    Calls Try.prog 31 #[.iface 36 (.slice A n c), .func (.func 41) #[] #[.pointer (some ⟨Bs, 0, none⟩)]] w fun e w' =>
      e = .returned (.tuple #[]) ∧ ∃ o', o'.Perm o ∧ NoLessC o' ∧ Own w' base 50 2 A n c (prs o') ∧ w.grownBy w' (blockOf A) := by
  have hol : o.length = n := own.sl.plen
  by_cases h1 : n ≤ 1
  · have hf : ∃ f, Try.prog.funcs.findIdx? (·.name == "internal/reflectlite" ++ ".Swapper$" ++ toString (swapperK n svcE 25)) = some f := by
      rcases (show n = 0 ∨ n = 1 by omega) with rfl | rfl
      · exact ⟨71, by kernel_rfl⟩
      · exact ⟨72, by kernel_rfl⟩
    obtain ⟨f, hf⟩ := hf
    refine (Any.sort_Slice_tiny svc6 36 50 svcT svcE (by kernel_rfl) (by kernel_rfl) (by kernel_rfl) (by kernel_rfl) 25 (fun _ => by kernel_rfl) A n c h1 f hf _ _ _ w).mono ?_
    rintro e w' ⟨he, os, rfl⟩
    refine ⟨he, o, List.Perm.refl _, ?_, ?_, growC_grown _⟩
    · unfold NoLessC
      rcases o with _ | ⟨r, _ | ⟨s, o⟩⟩
      · exact List.Pairwise.nil
      · exact List.pairwise_singleton _ _
      · simp at hol; omega
    · exact own.below ((Below.refl _ w).grown (growC_grown none) (Nat.le_refl _) (fun _ h => by cases h)) (Nat.le_refl _)
  · obtain ⟨g, rfl, hg, hgl⟩ := own.addr (by omega)
    have hBg : Bs ≠ g := fun e => hne (by rw [e]; rfl)
    have hds : o.toArray.size = n := by simpa using hol
    have hH : Sort.HoldsK ctV 2 w g 0 o.toArray := by
      intro j hj
      rw [Sort.size_flatK, List.size_toArray] at hj
      rw [Nat.zero_add]
      exact ⟨own.cell (flatK_ct o hj), own.free j⟩
    have hless : LessReadsK Try.prog 41 #[.pointer (some ⟨Bs, 0, none⟩)] ctV 2 ltC g 0 o.toArray.size w := by
      intro m os dk hs i j hi hj
      have e : sortWorldK ctV 2 w g 0 m dk os = Sort.putRowK ctV 2 (Sort.grow (Sort.ahead w m) os) g 0 dk := by
        unfold sortWorldK; rw [Sort.putRowK_grow _ _ (Sort.ahead w m) _ g 0 _ hgl]
      have hHg : Sort.HoldsK ctV 2 (Sort.grow (Sort.ahead w m) os) g 0 o.toArray := Sort.holdsK_grow _ _ _ _ g 0 o.toArray hgl (Sort.holdsK_ahead _ _ _ _ _ _ _ hH)
      refine lessc_is g c Bs n _ (fun t => dk[t]!.1) ?_ (fun t ht => ?_) i j (by omega) (by omega) (by omega)
      · rw [e, Sort.cell?_putRowK_other _ _ _ g 0 dk _ (by exact hBg), Sort.cell?_grow _ _ _ (by exact hB)]; exact hcell
      · rw [e]
        have := ((Sort.holdsK_putRowK _ _ _ g 0 o.toArray dk hHg hs).cell (i := t) (c := 0) (by omega) (by omega)).1
        simpa [ctV] using this
    refine (Any.sort_Slice_cells_sorted svc6 36 50 svcT svcE (by kernel_rfl) (by kernel_rfl) (by kernel_rfl) (by kernel_rfl) 25 (fun _ => by kernel_rfl) ctV 2 (fun _ => rfl) (by kernel_rfl) (fun _ => by kernel_rfl)
      (fun x v hv => by simp [ctV] at hv; rcases hv with rfl | rfl <;> rfl) ltC swo_ltC 41 _
      (fun args W => entersC Try.func41 (by kernel_rfl) rfl args W) g 0 c o.toArray (by omega) (by omega) 79 (by rw [svcK _ (by omega)]; kernel_rfl) false
      (fun args W => run_callFunc_extern Try.func79 (by kernel_rfl) (by kernel_rfl) (by kernel_rfl) (e := Extern.ReflectliteSwapper.swap false) (by kernel_rfl) args W) w hless hH hgl).mono ?_ |> fun k => by rw [hds] at k; exact k
    rintro e w' ⟨he, d', q, os, ⟨hp1, hp2, hp3⟩, hsrt, rfl⟩
    have hz : d'.toList.length = o.length := by simpa using hp1
    refine ⟨he, d'.toList, ?_, ?_, ?_, sortedC_grown _⟩
    · simp at hp3
      rwa [List.take_of_length_le (by omega)] at hp3
    · rw [NoLessC, List.pairwise_iff_getElem]
      intro i j hi hj hij
      have := hsrt i j (Nat.zero_le _) hij (by rw [← hp1]; simpa using hj)
      rw [getElem!_pos _ _ (by simpa using hj), getElem!_pos _ _ (by simpa using hi)] at this
      simpa [ltC] using this
    · have hsz : d'.toList.length = n := by rw [Array.length_toList, hp1, hds]
      have hHg := Sort.holdsK_grow ctV 2 (Sort.putRowK ctV 2 (Sort.ahead w q) g 0 d') os g 0 d' (by rw [Sort.size_putRowK]; exact hgl) (Sort.holdsK_putRowK ctV 2 _ g 0 o.toArray d' (Sort.holdsK_ahead ctV 2 w q g 0 _ hH) hp1)
      have e1 : (Sort.flatK ctV 2 d').toList = prs d'.toList := by
        apply List.ext_getElem?
        intro j
        have hfs : (Sort.flatK ctV 2 d').size = d'.toList.length * 2 := by simp
        by_cases hj : j < d'.toList.length * 2
        · rw [flatK_ct _ hj, Array.getElem?_toList, Array.getElem?_eq_getElem (by omega)]
          rw [getElem!_pos (Sort.flatK ctV 2 d'.toList.toArray) j (by simpa using hj)]
          rfl
        · rw [List.getElem?_eq_none (show (Sort.flatK ctV 2 d').toList.length ≤ j by rw [Array.length_toList]; omega), List.getElem?_eq_none (by rw [prs_len]; omega)]
      rw [← e1]
      exact own_putRow own (d := Sort.flatK ctV 2 d') (by rw [Sort.size_flatK, ← Array.length_toList, hsz])
end Go.Proofs.Ytfopihlbdceepaa
