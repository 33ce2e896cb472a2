/-
  culref.Fewer's order, and sort.Slice at counters by it. Conditions: the row's length.
-/
import Derived.Test.YtfopihlbdceepaaGreatCounts
import Derived.Shelf.SlSortFuncK.WholeK
import Derived.Shelf.GgSortFunc.Tiny
namespace Go.Proofs.YtfopihlbdceepaaGreat
open Go.Shelf Go.RowKit Go.Lib

def svc6_ren : Go.Shelf.Ren := ⟨fun | 6 => 20 | 10 => 31 | 11 => 32 | 12 => 33 | 13 => 30 | 14 => 34 | 24 => 50 | 25 => 51 | 26 => 61 | 27 => 62 | 28 => 63 | 29 => 64 | 30 => 65 | 31 => 66 | 32 => 67 | 33 => 68 | 34 => 84 | 35 => 85 | 36 => 86 | 37 => 87 | 38 => 88 | 39 => 94 | n => n, fun | 20 => 20 | 26 => 50 | 35 => 67 | 0 => 0 | 37 => 69 | 3 => 3 | 41 => 63 | 44 => 74 | 49 => 91 | 51 => 93 | 4 => 4 | 54 => 99 | 53 => 98 | 58 => 31 | 5 => 5 | 9 => 9 | 60 => 115 | 64 => 113 | 66 => 124 | 67 => 122 | 17 => 17 | 32 => 64 | 33 => 65 | 82 => 140 | 12 => 12 | 75 => 133 | 76 => 134 | 77 => 135 | 78 => 136 | 79 => 137 | 80 => 138 | n => n, fun | n => n⟩
theorem svc6 : Go.Proofs.LaysGg.n6 Tryz.prog svc6_ren := {
  mixed := by kernel_rfl
  f6 := Tryz.func20.trans (congrArg some (by kernel_rfl))
  f10 := Tryz.func31.trans (congrArg some (by kernel_rfl))
  f11 := Tryz.func32.trans (congrArg some (by kernel_rfl))
  f12 := Tryz.func33.trans (congrArg some (by kernel_rfl))
  f13 := Tryz.func30.trans (congrArg some (by kernel_rfl))
  f14 := Tryz.func34.trans (congrArg some (by kernel_rfl))
  f24 := Tryz.func50.trans (congrArg some (by kernel_rfl))
  f25 := Tryz.func51.trans (congrArg some (by kernel_rfl))
  f26 := Tryz.func61.trans (congrArg some (by kernel_rfl))
  f27 := Tryz.func62.trans (congrArg some (by kernel_rfl))
  f28 := Tryz.func63.trans (congrArg some (by kernel_rfl))
  f29 := Tryz.func64.trans (congrArg some (by kernel_rfl))
  f30 := Tryz.func65.trans (congrArg some (by kernel_rfl))
  f31 := Tryz.func66.trans (congrArg some (by kernel_rfl))
  f32 := Tryz.func67.trans (congrArg some (by kernel_rfl))
  f33 := Tryz.func68.trans (congrArg some (by kernel_rfl))
  f34 := Tryz.func84.trans (congrArg some (by kernel_rfl))
  f35 := Tryz.func85.trans (congrArg some (by kernel_rfl))
  f36 := Tryz.func86.trans (congrArg some (by kernel_rfl))
  f37 := Tryz.func87.trans (congrArg some (by kernel_rfl))
  f38 := Tryz.func88.trans (congrArg some (by kernel_rfl))
  f39 := Tryz.func94.trans (congrArg some (by kernel_rfl))
  t0 := Tryz.underlying0
  a0 := Tryz.isAgg0
  z0 := Tryz.sizeOf0
  v0 := Tryz.zeroValue0
  i0 := by kernel_rfl
  t3 := Tryz.underlying3
  a3 := Tryz.isAgg3
  z3 := Tryz.sizeOf3
  v3 := Tryz.zeroValue3
  i3 := by kernel_rfl
  t4 := Tryz.underlying4
  a4 := Tryz.isAgg4
  z4 := Tryz.sizeOf4
  v4 := Tryz.zeroValue4
  i4 := by kernel_rfl
  t5 := Tryz.underlying5
  a5 := Tryz.isAgg5
  z5 := Tryz.sizeOf5
  v5 := Tryz.zeroValue5
  i5 := by kernel_rfl
  t9 := Tryz.underlying9
  a9 := Tryz.isAgg9
  z9 := Tryz.sizeOf9
  v9 := Tryz.zeroValue9
  i9 := by kernel_rfl
  t12 := Tryz.underlying12
  a12 := Tryz.isAgg12
  z12 := Tryz.sizeOf12
  v12 := Tryz.zeroValue12
  i12 := by kernel_rfl
  t17 := Tryz.underlying17
  a17 := Tryz.isAgg17
  z17 := Tryz.sizeOf17
  v17 := Tryz.zeroValue17
  i17 := by kernel_rfl
  t20 := Tryz.underlying20
  a20 := Tryz.isAgg20
  z20 := Tryz.sizeOf20
  v20 := Tryz.zeroValue20
  i20 := by kernel_rfl
  t26 := Tryz.underlying50
  a26 := Tryz.isAgg50
  z26 := Tryz.sizeOf50
  v26 := Tryz.zeroValue50
  i26 := by kernel_rfl
  t32 := Tryz.underlying64
  a32 := Tryz.isAgg64
  z32 := Tryz.sizeOf64
  v32 := Tryz.zeroValue64
  i32 := by kernel_rfl
  t33 := Tryz.underlying65
  a33 := Tryz.isAgg65
  z33 := Tryz.sizeOf65
  v33 := Tryz.zeroValue65
  i33 := by kernel_rfl
  t35 := Tryz.underlying67
  a35 := Tryz.isAgg67
  z35 := Tryz.sizeOf67
  v35 := Tryz.zeroValue67
  i35 := by kernel_rfl
  t37 := Tryz.underlying69
  a37 := Tryz.isAgg69
  z37 := Tryz.sizeOf69
  v37 := Tryz.zeroValue69
  i37 := by kernel_rfl
  t41 := Tryz.underlying63
  a41 := Tryz.isAgg63
  z41 := Tryz.sizeOf63
  v41 := Tryz.zeroValue63
  i41 := by kernel_rfl
  t44 := Tryz.underlying74
  a44 := Tryz.isAgg74
  z44 := Tryz.sizeOf74
  v44 := Tryz.zeroValue74
  i44 := by kernel_rfl
  t49 := Tryz.underlying91
  a49 := Tryz.isAgg91
  z49 := Tryz.sizeOf91
  v49 := Tryz.zeroValue91
  i49 := by kernel_rfl
  t51 := Tryz.underlying93
  a51 := Tryz.isAgg93
  z51 := Tryz.sizeOf93
  v51 := Tryz.zeroValue93
  i51 := by kernel_rfl
  t53 := Tryz.underlying98
  a53 := Tryz.isAgg98
  z53 := Tryz.sizeOf98
  v53 := Tryz.zeroValue98
  i53 := by kernel_rfl
  t54 := Tryz.underlying99
  a54 := Tryz.isAgg99
  z54 := Tryz.sizeOf99
  v54 := Tryz.zeroValue99
  i54 := by kernel_rfl
  t58 := Tryz.underlying31
  a58 := Tryz.isAgg31
  z58 := Tryz.sizeOf31
  v58 := Tryz.zeroValue31
  i58 := by kernel_rfl
  t60 := Tryz.underlying115
  a60 := Tryz.isAgg115
  z60 := Tryz.sizeOf115
  v60 := Tryz.zeroValue115
  i60 := by kernel_rfl
  t64 := Tryz.underlying113
  a64 := Tryz.isAgg113
  z64 := Tryz.sizeOf113
  v64 := Tryz.zeroValue113
  i64 := by kernel_rfl
  t66 := Tryz.underlying124
  a66 := Tryz.isAgg124
  z66 := Tryz.sizeOf124
  v66 := Tryz.zeroValue124
  i66 := by kernel_rfl
  t67 := Tryz.underlying122
  a67 := Tryz.isAgg122
  z67 := Tryz.sizeOf122
  v67 := Tryz.zeroValue122
  i67 := by kernel_rfl
  t75 := Tryz.underlying133
  a75 := Tryz.isAgg133
  z75 := Tryz.sizeOf133
  v75 := Tryz.zeroValue133
  i75 := by kernel_rfl
  t76 := Tryz.underlying134
  a76 := Tryz.isAgg134
  z76 := Tryz.sizeOf134
  v76 := Tryz.zeroValue134
  i76 := by kernel_rfl
  t77 := Tryz.underlying135
  a77 := Tryz.isAgg135
  z77 := Tryz.sizeOf135
  v77 := Tryz.zeroValue135
  i77 := by kernel_rfl
  t78 := Tryz.underlying136
  a78 := Tryz.isAgg136
  z78 := Tryz.sizeOf136
  v78 := Tryz.zeroValue136
  i78 := by kernel_rfl
  t79 := Tryz.underlying137
  a79 := Tryz.isAgg137
  z79 := Tryz.sizeOf137
  v79 := Tryz.zeroValue137
  i79 := by kernel_rfl
  t80 := Tryz.underlying138
  a80 := Tryz.isAgg138
  z80 := Tryz.sizeOf138
  v80 := Tryz.zeroValue138
  i80 := by kernel_rfl
  t82 := Tryz.underlying140
  a82 := Tryz.isAgg140
  z82 := Tryz.sizeOf140
  v82 := Tryz.zeroValue140
  i82 := by kernel_rfl }
noncomputable def svcT : TypeInfo := (Tryz.prog.info? 22).get (by kernel_rfl)
noncomputable def svcE : TypeInfo := (Tryz.prog.info? 40).get (by kernel_rfl)
theorem svcK (n : Nat) (h2 : 2 ≤ n) : Lib.swapperK n svcE 25 = 9 := by
  have a : svcE.hasPointers = false := by kernel_rfl
  have b : svcE.bytes = 16 := by kernel_rfl
  have c : (n == 0) = false := by simp; omega
  have d : (n == 1) = false := by simp; omega
  simp [Lib.swapperK, a, b, c, d]
def ltC (r s : Ct) : Bool := decide (r.1 < s.1)
theorem swo_ltC : Sort.SWO ltC where
  irrefl := fun x => by simp [ltC]
  trans := fun x y z h1 h2 => by simp [ltC] at *; omega
  ntrans := fun x y z h1 h2 => by simp [ltC] at *; omega
set_option maxHeartbeats 2000000 in
theorem lessc_is (g c Bs size : Nat) (W : World) (G : Nat → Int) (hs : W.cell? ⟨Bs, 0, none⟩ = some (.slice (some ⟨g, 0, none⟩) size c))
    (hc : ∀ t, t < size → W.cell? ⟨g, t * 2, none⟩ = some (.int .i64 (G t))) (i j : Nat) (hi : i < size) (hj : j < size) (_hsz : size < 4611686018427387904) :
    Calls Tryz.prog 21 #[.int .i64 i, .int .i64 j, .pointer (some ⟨Bs, 0, none⟩)] W fun e w' => e = .returned (.bool (decide (G i < G j))) ∧ ∃ q, w' = W.drewN q := by
  have ci := hc i hi
  have cj := hc j hj
  generalize G i = a at ci ⊢
  generalize G j = b at cj ⊢
  clear hc
  obtain ⟨B, hB⟩ : ∃ B, decide (a < b) = B := ⟨_, rfl⟩
  rw [hB]
  go_enter Tryz.func21, Tryz.ntmps21
  go_wp2
  go_quiet (fail)
  go_wp2
  go_ret
  exact ⟨rfl, nq, rfl⟩
theorem prs_get {o : List Ct} {j : Nat} (hj : j < o.length * 2) : (prs o)[j]? = some (ctV (o.toArray[j / 2]!))[j % 2]! := by
  have h1 : j / 2 < o.length := by omega
  have h2 : o.toArray[j / 2]! = o[j / 2] := by rw [getElem!_pos _ _ (by simpa using h1)]; rfl
  have h3 : j = j / 2 * 2 + j % 2 := by omega
  have h4 : (ctV o[j / 2])[j % 2]? = some (ctV o[j / 2])[j % 2]! := by
    have : j % 2 < 2 := Nat.mod_lt _ (by decide)
    rw [getElem!_pos _ _ (by simpa [ctV] using this)]
    exact List.getElem?_eq_getElem _
  rw [h2]
  have := flat_at (f := ctV) (size := 2) (fun _ => rfl) (List.getElem?_eq_getElem h1) h4
  rwa [← h3] at this
theorem flatK_ct (o : List Ct) {j : Nat} (hj : j < o.length * 2) : (prs o)[j]? = some (id (Sort.flatK ctV 2 o.toArray)[j]!) := by
  rw [prs_get hj, id, Sort.get_flatK _ _ _ _ (by simpa using hj)]
theorem sortedC_grown {w : World} {g n : Nat} {os : Array Obj} (d : Array Ct) : w.grownBy (Sort.grow (Sort.putRowK ctV 2 (Sort.ahead w n) g 0 d) os) (some g) := by
  refine ⟨rfl, rfl, rfl, by simp [Sort.size_putRowK, Sort.ahead], fun k hk hne => ?_⟩
  rw [Sort.heap_grow_old _ _ (by simpa [Sort.size_putRowK, Sort.ahead] using hk)]
  have : g ≠ k := fun e => hne (by rw [e])
  simp [Sort.putRowK, Sort.putRow, Sort.mapBlock, Sort.ahead, Array.getElem?_modify, this]
theorem growC_grown {w : World} {os : Array Obj} (row : Option Nat) : w.grownBy (Sort.grow w os) row := ⟨rfl, rfl, rfl, by simp, fun k hk _ => Sort.heap_grow_old _ _ hk⟩
/-- Behind the sort the row is the call's own still. -/
theorem own_putRow {w : World} {base size n c g q : Nat} {e : TypeId} {xs : List Value} {os : Array Obj} (h : Own w base e size (some ⟨g, 0, none⟩) n c xs) {d : Array Value} (hd : d.size = n * size) :
    Own (Sort.grow (Sort.putRow id (Sort.ahead w q) g 0 d) os) base e size (some ⟨g, 0, none⟩) n c d.toList := by
  rcases h.2 with ⟨e0, _⟩ | ⟨g', cap', cur, e0, hb, hg, hn, hm, hs, ht⟩
  · cases e0
  · injection e0 with e1 _ e3
    injection e1 with e1
    injection e1 with e1
    subst e1; subst e3
    have hgl : g < w.heap.size := (Array.getElem?_eq_some_iff.1 hg).1
    have hle : n * size ≤ c * size := Nat.mul_le_mul_right _ hn
    refine ⟨by simpa using hd, .inr ⟨g, c, Sort.putCells id 0 d cur, rfl, hb, ?_, hn, hm, by simpa [Sort.putCells] using hs, ?_⟩⟩
    · rw [Sort.heap_grow_old _ _ (by simpa [Sort.ahead] using hgl)]
      simp [Sort.putRow, Sort.mapBlock, Sort.ahead, Array.getElem?_modify, hg, Sort.onCells]
    · apply List.ext_getElem?
      intro j
      by_cases hj : j < n * size
      · have hjc : j < cur.size := by omega
        have hjd : j < d.size := by omega
        rw [List.getElem?_take_of_lt hj, Array.getElem?_toList, Array.getElem?_toList]
        simp [Sort.putCells, hjd, hjc]
      · rw [List.getElem?_take_eq_none (by omega), List.getElem?_eq_none (by simp; omega)]
abbrev NoLessC (o : List Ct) : Prop := o.Pairwise fun a b => a.1 ≤ b.1
set_option maxHeartbeats 2000000 in
theorem sort_counters {w : World} {A : Option Addr} {base n c Bs : Nat} {o : List Ct} (own : Own w base 40 2 A n c (prs o)) (hcell : w.cell? ⟨Bs, 0, none⟩ = some (.slice A n c)) (hB : Bs < w.heap.size) (hne : blockOf A ≠ some Bs) (hn : n ≤ 1000) :
    Calls Tryz.prog 20 #[.iface 22 (.slice A n c), .func (.func 21) #[] #[.pointer (some ⟨Bs, 0, none⟩)]] w fun e w' =>
      e = .returned (.tuple #[]) ∧ ∃ o', o'.Perm o ∧ NoLessC o' ∧ Own w' base 40 2 A n c (prs o') ∧ w.grownBy w' (blockOf A) := by
  have hol : o.length = n := own.sl.plen
  by_cases h1 : n ≤ 1
  · have hf : ∃ f, Tryz.prog.funcs.findIdx? (·.name == "internal/reflectlite" ++ ".Swapper$" ++ toString (swapperK n svcE 25)) = some f := by
      rcases (show n = 0 ∨ n = 1 by omega) with rfl | rfl
      · exact ⟨52, by kernel_rfl⟩
      · exact ⟨53, by kernel_rfl⟩
    obtain ⟨f, hf⟩ := hf
    refine (Any.sort_Slice_tiny svc6 22 40 svcT svcE (by kernel_rfl) (by kernel_rfl) (by kernel_rfl) (by kernel_rfl) 25 (fun _ => by kernel_rfl) A n c h1 f hf _ _ _ w).mono ?_
    rintro e w' ⟨he, os, rfl⟩
    refine ⟨he, o, List.Perm.refl _, ?_, ?_, growC_grown _⟩
    · unfold NoLessC
      rcases o with _ | ⟨r, _ | ⟨s, o⟩⟩
      · exact List.Pairwise.nil
      · exact List.pairwise_singleton _ _
      · simp at hol; omega
    · exact own.below ((Below.refl _ w).grown (growC_grown none) (Nat.le_refl _) (fun _ h => by cases h)) (Nat.le_refl _)
  · obtain ⟨g, rfl, hg, hgl⟩ := own.addr (by omega)
    have hBg : Bs ≠ g := fun e => hne (by rw [e]; rfl)
    have hds : o.toArray.size = n := by simpa using hol
    have hH : Sort.HoldsK ctV 2 w g 0 o.toArray := by
      intro j hj
      rw [Sort.size_flatK, List.size_toArray] at hj
      rw [Nat.zero_add]
      exact ⟨own.cell (flatK_ct o hj), own.free j⟩
    have hless : LessReadsK Tryz.prog 21 #[.pointer (some ⟨Bs, 0, none⟩)] ctV 2 ltC g 0 o.toArray.size w := by
      intro m os dk hs i j hi hj
      have e : sortWorldK ctV 2 w g 0 m dk os = Sort.putRowK ctV 2 (Sort.grow (Sort.ahead w m) os) g 0 dk := by
        unfold sortWorldK; rw [Sort.putRowK_grow _ _ (Sort.ahead w m) _ g 0 _ hgl]
      have hHg : Sort.HoldsK ctV 2 (Sort.grow (Sort.ahead w m) os) g 0 o.toArray := Sort.holdsK_grow _ _ _ _ g 0 o.toArray hgl (Sort.holdsK_ahead _ _ _ _ _ _ _ hH)
      refine lessc_is g c Bs n _ (fun t => dk[t]!.1) ?_ (fun t ht => ?_) i j (by omega) (by omega) (by omega)
      · rw [e, Sort.cell?_putRowK_other _ _ _ g 0 dk _ (by exact hBg), Sort.cell?_grow _ _ _ (by exact hB)]; exact hcell
      · rw [e]
        have := ((Sort.holdsK_putRowK _ _ _ g 0 o.toArray dk hHg hs).cell (i := t) (c := 0) (by omega) (by omega)).1
        simpa [ctV] using this
    refine (Any.sort_Slice_cells_sorted svc6 22 40 svcT svcE (by kernel_rfl) (by kernel_rfl) (by kernel_rfl) (by kernel_rfl) 25 (fun _ => by kernel_rfl) ctV 2 (fun _ => rfl) (by kernel_rfl) (fun _ => by kernel_rfl)
      (fun x v hv => by simp [ctV] at hv; rcases hv with rfl | rfl <;> rfl) ltC swo_ltC 21 _
      (fun args W => entersC Tryz.func21 (by kernel_rfl) rfl args W) g 0 c o.toArray (by omega) (by omega) 60 (by rw [svcK _ (by omega)]; kernel_rfl) false
      (fun args W => run_callFunc_extern Tryz.func60 (by kernel_rfl) (by kernel_rfl) (by kernel_rfl) (e := Extern.ReflectliteSwapper.swap false) (by kernel_rfl) args W) w hless hH hgl).mono ?_ |> fun k => by rw [hds] at k; exact k
    rintro e w' ⟨he, d', q, os, ⟨hp1, hp2, hp3⟩, hsrt, rfl⟩
    have hz : d'.toList.length = o.length := by simpa using hp1
    refine ⟨he, d'.toList, ?_, ?_, ?_, sortedC_grown _⟩
    · simp at hp3
      rwa [List.take_of_length_le (by omega)] at hp3
    · rw [NoLessC, List.pairwise_iff_getElem]
      intro i j hi hj hij
      have := hsrt i j (Nat.zero_le _) hij (by rw [← hp1]; simpa using hj)
      rw [getElem!_pos _ _ (by simpa using hj), getElem!_pos _ _ (by simpa using hi)] at this
      simpa [ltC] using this
    · have hsz : d'.toList.length = n := by rw [Array.length_toList, hp1, hds]
      have hHg := Sort.holdsK_grow ctV 2 (Sort.putRowK ctV 2 (Sort.ahead w q) g 0 d') os g 0 d' (by rw [Sort.size_putRowK]; exact hgl) (Sort.holdsK_putRowK ctV 2 _ g 0 o.toArray d' (Sort.holdsK_ahead ctV 2 w q g 0 _ hH) hp1)
      have e1 : (Sort.flatK ctV 2 d').toList = prs d'.toList := by
        apply List.ext_getElem?
        intro j
        have hfs : (Sort.flatK ctV 2 d').size = d'.toList.length * 2 := by simp
        by_cases hj : j < d'.toList.length * 2
        · rw [flatK_ct _ hj, Array.getElem?_toList, Array.getElem?_eq_getElem (by omega)]
          rw [getElem!_pos (Sort.flatK ctV 2 d'.toList.toArray) j (by simpa using hj)]
          rfl
        · rw [List.getElem?_eq_none (show (Sort.flatK ctV 2 d').toList.length ≤ j by rw [Array.length_toList]; omega), List.getElem?_eq_none (by rw [prs_len]; omega)]
      rw [← e1]
      exact own_putRow own (d := Sort.flatK ctV 2 d') (by rw [Sort.size_flatK, ← Array.length_toList, hsz])
end Go.Proofs.YtfopihlbdceepaaGreat
