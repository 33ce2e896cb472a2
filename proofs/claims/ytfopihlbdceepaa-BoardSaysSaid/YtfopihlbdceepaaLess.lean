/-
  culref.Joined's order, and sort.Slice by it. Conditions: the row's length.
-/
import Derived.Test.YtfopihlbdceepaaMapR
import Derived.Test.YtfopihlbdceepaaRAsk
import Derived.Test.YtfopihlbdceepaaConcR
import Derived.Shelf.SlSortFuncK.WholeK
import Derived.Shelf.GgSortFunc.Tiny
namespace Go.Proofs.Ytfopihlbdceepaa
open Go.Shelf Go.RowKit Go.Lib

def sv6_ren : Go.Shelf.Ren := ⟨fun | 6 => 31 | 10 => 57 | 11 => 58 | 12 => 59 | 13 => 60 | 14 => 61 | 24 => 80 | 25 => 81 | 26 => 82 | 27 => 83 | 28 => 84 | 29 => 85 | 30 => 86 | 31 => 87 | 32 => 88 | 33 => 89 | 34 => 103 | 35 => 104 | 36 => 105 | 37 => 106 | 38 => 107 | 39 => 112 | n => n, fun | 20 => 20 | 26 => 64 | 35 => 94 | 0 => 0 | 37 => 96 | 3 => 3 | 41 => 100 | 44 => 103 | 49 => 118 | 51 => 120 | 4 => 4 | 54 => 123 | 53 => 122 | 58 => 54 | 5 => 5 | 9 => 9 | 60 => 136 | 64 => 140 | 66 => 144 | 67 => 145 | 17 => 17 | 32 => 91 | 33 => 92 | 82 => 162 | 12 => 12 | 75 => 155 | 76 => 156 | 77 => 157 | 78 => 158 | 79 => 159 | 80 => 160 | n => n, fun | n => n⟩
theorem sv6 : Go.Proofs.LaysGg.n6 Try.prog sv6_ren := {
  mixed := by kernel_rfl
  f6 := Try.func31.trans (congrArg some (by kernel_rfl))
  f10 := Try.func57.trans (congrArg some (by kernel_rfl))
  f11 := Try.func58.trans (congrArg some (by kernel_rfl))
  f12 := Try.func59.trans (congrArg some (by kernel_rfl))
  f13 := Try.func60.trans (congrArg some (by kernel_rfl))
  f14 := Try.func61.trans (congrArg some (by kernel_rfl))
  f24 := Try.func80.trans (congrArg some (by kernel_rfl))
  f25 := Try.func81.trans (congrArg some (by kernel_rfl))
  f26 := Try.func82.trans (congrArg some (by kernel_rfl))
  f27 := Try.func83.trans (congrArg some (by kernel_rfl))
  f28 := Try.func84.trans (congrArg some (by kernel_rfl))
  f29 := Try.func85.trans (congrArg some (by kernel_rfl))
  f30 := Try.func86.trans (congrArg some (by kernel_rfl))
  f31 := Try.func87.trans (congrArg some (by kernel_rfl))
  f32 := Try.func88.trans (congrArg some (by kernel_rfl))
  f33 := Try.func89.trans (congrArg some (by kernel_rfl))
  f34 := Try.func103.trans (congrArg some (by kernel_rfl))
  f35 := Try.func104.trans (congrArg some (by kernel_rfl))
  f36 := Try.func105.trans (congrArg some (by kernel_rfl))
  f37 := Try.func106.trans (congrArg some (by kernel_rfl))
  f38 := Try.func107.trans (congrArg some (by kernel_rfl))
  f39 := Try.func112.trans (congrArg some (by kernel_rfl))
  t0 := Try.underlying0
  a0 := Try.isAgg0
  z0 := Try.sizeOf0
  v0 := Try.zeroValue0
  i0 := by kernel_rfl
  t3 := Try.underlying3
  a3 := Try.isAgg3
  z3 := Try.sizeOf3
  v3 := Try.zeroValue3
  i3 := by kernel_rfl
  t4 := Try.underlying4
  a4 := Try.isAgg4
  z4 := Try.sizeOf4
  v4 := Try.zeroValue4
  i4 := by kernel_rfl
  t5 := Try.underlying5
  a5 := Try.isAgg5
  z5 := Try.sizeOf5
  v5 := Try.zeroValue5
  i5 := by kernel_rfl
  t9 := Try.underlying9
  a9 := Try.isAgg9
  z9 := Try.sizeOf9
  v9 := Try.zeroValue9
  i9 := by kernel_rfl
  t12 := Try.underlying12
  a12 := Try.isAgg12
  z12 := Try.sizeOf12
  v12 := Try.zeroValue12
  i12 := by kernel_rfl
  t17 := Try.underlying17
  a17 := Try.isAgg17
  z17 := Try.sizeOf17
  v17 := Try.zeroValue17
  i17 := by kernel_rfl
  t20 := Try.underlying20
  a20 := Try.isAgg20
  z20 := Try.sizeOf20
  v20 := Try.zeroValue20
  i20 := by kernel_rfl
  t26 := Try.underlying64
  a26 := Try.isAgg64
  z26 := Try.sizeOf64
  v26 := Try.zeroValue64
  i26 := by kernel_rfl
  t32 := Try.underlying91
  a32 := Try.isAgg91
  z32 := Try.sizeOf91
  v32 := Try.zeroValue91
  i32 := by kernel_rfl
  t33 := Try.underlying92
  a33 := Try.isAgg92
  z33 := Try.sizeOf92
  v33 := Try.zeroValue92
  i33 := by kernel_rfl
  t35 := Try.underlying94
  a35 := Try.isAgg94
  z35 := Try.sizeOf94
  v35 := Try.zeroValue94
  i35 := by kernel_rfl
  t37 := Try.underlying96
  a37 := Try.isAgg96
  z37 := Try.sizeOf96
  v37 := Try.zeroValue96
  i37 := by kernel_rfl
  t41 := Try.underlying100
  a41 := Try.isAgg100
  z41 := Try.sizeOf100
  v41 := Try.zeroValue100
  i41 := by kernel_rfl
  t44 := Try.underlying103
  a44 := Try.isAgg103
  z44 := Try.sizeOf103
  v44 := Try.zeroValue103
  i44 := by kernel_rfl
  t49 := Try.underlying118
  a49 := Try.isAgg118
  z49 := Try.sizeOf118
  v49 := Try.zeroValue118
  i49 := by kernel_rfl
  t51 := Try.underlying120
  a51 := Try.isAgg120
  z51 := Try.sizeOf120
  v51 := Try.zeroValue120
  i51 := by kernel_rfl
  t53 := Try.underlying122
  a53 := Try.isAgg122
  z53 := Try.sizeOf122
  v53 := Try.zeroValue122
  i53 := by kernel_rfl
  t54 := Try.underlying123
  a54 := Try.isAgg123
  z54 := Try.sizeOf123
  v54 := Try.zeroValue123
  i54 := by kernel_rfl
  t58 := Try.underlying54
  a58 := Try.isAgg54
  z58 := Try.sizeOf54
  v58 := Try.zeroValue54
  i58 := by kernel_rfl
  t60 := Try.underlying136
  a60 := Try.isAgg136
  z60 := Try.sizeOf136
  v60 := Try.zeroValue136
  i60 := by kernel_rfl
  t64 := Try.underlying140
  a64 := Try.isAgg140
  z64 := Try.sizeOf140
  v64 := Try.zeroValue140
  i64 := by kernel_rfl
  t66 := Try.underlying144
  a66 := Try.isAgg144
  z66 := Try.sizeOf144
  v66 := Try.zeroValue144
  i66 := by kernel_rfl
  t67 := Try.underlying145
  a67 := Try.isAgg145
  z67 := Try.sizeOf145
  v67 := Try.zeroValue145
  i67 := by kernel_rfl
  t75 := Try.underlying155
  a75 := Try.isAgg155
  z75 := Try.sizeOf155
  v75 := Try.zeroValue155
  i75 := by kernel_rfl
  t76 := Try.underlying156
  a76 := Try.isAgg156
  z76 := Try.sizeOf156
  v76 := Try.zeroValue156
  i76 := by kernel_rfl
  t77 := Try.underlying157
  a77 := Try.isAgg157
  z77 := Try.sizeOf157
  v77 := Try.zeroValue157
  i77 := by kernel_rfl
  t78 := Try.underlying158
  a78 := Try.isAgg158
  z78 := Try.sizeOf158
  v78 := Try.zeroValue158
  i78 := by kernel_rfl
  t79 := Try.underlying159
  a79 := Try.isAgg159
  z79 := Try.sizeOf159
  v79 := Try.zeroValue159
  i79 := by kernel_rfl
  t80 := Try.underlying160
  a80 := Try.isAgg160
  z80 := Try.sizeOf160
  v80 := Try.zeroValue160
  i80 := by kernel_rfl
  t82 := Try.underlying162
  a82 := Try.isAgg162
  z82 := Try.sizeOf162
  v82 := Try.zeroValue162
  i82 := by kernel_rfl }
noncomputable def svT : TypeInfo := (Try.prog.info? 22).get (by kernel_rfl)
noncomputable def svE : TypeInfo := (Try.prog.info? 24).get (by kernel_rfl)
theorem svK (n : Nat) (h2 : 2 ≤ n) : Lib.swapperK n svE 25 = 9 := by
  have a : svE.hasPointers = true := by kernel_rfl
  have b : svE.bytes = 32 := by kernel_rfl
  have c : (n == 0) = false := by simp; omega
  have d : (n == 1) = false := by simp; omega
  simp [Lib.swapperK, a, b, c, d]
def ltR (r s : Rul) : Bool := ltB r.1 s.1
theorem swo_ltR : Sort.SWO ltR where
  irrefl := fun x => ltB_irr _
  trans := fun x y z h1 h2 => ltB_trans h1 h2
  ntrans := fun x y z h1 h2 => by
    unfold ltR at *
    cases h : ltB x.1 z.1 with
    | false => rfl
    | true =>
      cases h3 : ltB y.1 x.1 with
      | true => have := ltB_trans h3 h; rw [h2] at this; cases this
      | false => rw [ltB_total h1 h3] at h; rw [h2] at h; cases h
set_option maxHeartbeats 2000000 in
theorem less_is (g c Bs size : Nat) (W : World) (G : Nat → ByteArray) (hs : W.cell? ⟨Bs, 0, none⟩ = some (.slice (some ⟨g, 0, none⟩) size c))
    (hc : ∀ t, t < size → W.cell? ⟨g, t * 3, none⟩ = some (.string (G t))) (i j : Nat) (hi : i < size) (hj : j < size) (_hsz : size < 4611686018427387904) :
    Calls Try.prog 32 #[.int .i64 i, .int .i64 j, .pointer (some ⟨Bs, 0, none⟩)] W fun e w' => e = .returned (.bool (ltB (G i) (G j))) ∧ ∃ q, w' = W.drewN q := by
  have ci := hc i hi
  have cj := hc j hj
  have hl := less_of (G i) (G j)
  generalize G i = a at ci hl ⊢
  generalize G j = b at cj hl ⊢
  generalize ltB a b = B at hl ⊢
  clear hc
  go_enter Try.func32, Try.ntmps32
  go_wp2
  go_quiet (fail)
  go_wp2
  go_ret
  exact ⟨rfl, nq, rfl⟩
theorem rls_get {o : List Rul} {j : Nat} (hj : j < o.length * 3) : (rls o)[j]? = some (rlV (o.toArray[j / 3]!))[j % 3]! := by
  have h1 : j / 3 < o.length := by omega
  have h2 : o.toArray[j / 3]! = o[j / 3] := by rw [getElem!_pos _ _ (by simpa using h1)]; rfl
  have h3 : j = j / 3 * 3 + j % 3 := by omega
  have h4 : (rlV o[j / 3])[j % 3]? = some (rlV o[j / 3])[j % 3]! := by
    have : j % 3 < 3 := Nat.mod_lt _ (by decide)
    rw [getElem!_pos _ _ (by simpa [rlV] using this)]
    exact List.getElem?_eq_getElem _
  rw [h2]
  have := flat_at (f := rlV) (size := 3) (fun _ => rfl) (List.getElem?_eq_getElem h1) h4
  rwa [← h3] at this
theorem flatK_rl (o : List Rul) {j : Nat} (hj : j < o.length * 3) : (rls o)[j]? = some (id (Sort.flatK rlV 3 o.toArray)[j]!) := by
  rw [rls_get hj, id, Sort.get_flatK _ _ _ _ (by simpa using hj)]
theorem sorted_grown {w : World} {g n : Nat} {os : Array Obj} (d : Array Rul) : w.grownBy (Sort.grow (Sort.putRowK rlV 3 (Sort.ahead w n) g 0 d) os) (some g) := by
  refine ⟨rfl, rfl, rfl, by simp [Sort.size_putRowK, Sort.ahead], fun k hk hne => ?_⟩
  rw [Sort.heap_grow_old _ _ (by simpa [Sort.size_putRowK, Sort.ahead] using hk)]
  have : g ≠ k := fun e => hne (by rw [e])
  simp [Sort.putRowK, Sort.putRow, Sort.mapBlock, Sort.ahead, Array.getElem?_modify, this]
theorem grow_grown {w : World} {os : Array Obj} (row : Option Nat) : w.grownBy (Sort.grow w os) row := ⟨rfl, rfl, rfl, by simp, fun k hk _ => Sort.heap_grow_old _ _ hk⟩
abbrev NoLess (o : List Rul) : Prop := o.Pairwise fun a b => ltB b.1 a.1 = false
set_option maxHeartbeats 2000000 in
theorem sort_rules {w : World} {A : Option Addr} {base n c Bs : Nat} {o : List Rul} (own : Own w base 24 3 A n c (rls o)) (hcell : w.cell? ⟨Bs, 0, none⟩ = some (.slice A n c)) (hB : Bs < w.heap.size) (hne : blockOf A ≠ some Bs) (hn : n ≤ 1000) :
    Calls Try.prog 31 #[.iface 22 (.slice A n c), .func (.func 32) #[] #[.pointer (some ⟨Bs, 0, none⟩)]] w fun e w' =>
      e = .returned (.tuple #[]) ∧ ∃ o', o'.Perm o ∧ NoLess o' ∧ Sl w' w'.heap.size 3 A n c (rls o') ∧ w.grownBy w' (blockOf A) := by
  have hol : o.length = n := own.sl.rlen
  by_cases h1 : n ≤ 1
  · have hf : ∃ f, Try.prog.funcs.findIdx? (·.name == "internal/reflectlite" ++ ".Swapper$" ++ toString (swapperK n svE 25)) = some f := by
      rcases (show n = 0 ∨ n = 1 by omega) with rfl | rfl
      · exact ⟨71, by kernel_rfl⟩
      · exact ⟨72, by kernel_rfl⟩
    obtain ⟨f, hf⟩ := hf
    refine (Any.sort_Slice_tiny sv6 22 24 svT svE (by kernel_rfl) (by kernel_rfl) (by kernel_rfl) (by kernel_rfl) 25 (fun _ => by kernel_rfl) A n c h1 f hf _ _ _ w).mono ?_
    rintro e w' ⟨he, os, rfl⟩
    refine ⟨he, o, List.Perm.refl _, ?_, ?_, grow_grown _⟩
    · unfold NoLess
      rcases o with _ | ⟨r, _ | ⟨s, o⟩⟩
      · exact List.Pairwise.nil
      · exact List.pairwise_singleton _ _
      · simp at hol; omega
    · exact own.sl.on ((Below.refl _ _).grown (grow_grown none) (Nat.le_refl _) (fun _ h => by cases h))
  · obtain ⟨g, rfl, hg, hgl⟩ := own.addr (by omega)
    have hBg : Bs ≠ g := fun e => hne (by rw [e]; rfl)
    have hds : o.toArray.size = n := by simpa using hol
    have hH : Sort.HoldsK rlV 3 w g 0 o.toArray := by
      intro j hj
      rw [Sort.size_flatK, List.size_toArray] at hj
      rw [Nat.zero_add]
      exact ⟨own.cell (flatK_rl o hj), own.free j⟩
    have hless : LessReadsK Try.prog 32 #[.pointer (some ⟨Bs, 0, none⟩)] rlV 3 ltR g 0 o.toArray.size w := by
      intro m os dk hs i j hi hj
      have e : sortWorldK rlV 3 w g 0 m dk os = Sort.putRowK rlV 3 (Sort.grow (Sort.ahead w m) os) g 0 dk := by
        unfold sortWorldK; rw [Sort.putRowK_grow _ _ (Sort.ahead w m) _ g 0 _ hgl]
      have hHg : Sort.HoldsK rlV 3 (Sort.grow (Sort.ahead w m) os) g 0 o.toArray := Sort.holdsK_grow _ _ _ _ g 0 o.toArray hgl (Sort.holdsK_ahead _ _ _ _ _ _ _ hH)
      refine less_is g c Bs n _ (fun t => dk[t]!.1) ?_ (fun t ht => ?_) i j (by omega) (by omega) (by omega)
      · rw [e, Sort.cell?_putRowK_other _ _ _ g 0 dk _ (by exact hBg), Sort.cell?_grow _ _ _ (by exact hB)]; exact hcell
      · rw [e]
        have := ((Sort.holdsK_putRowK _ _ _ g 0 o.toArray dk hHg hs).cell (i := t) (c := 0) (by omega) (by omega)).1
        simpa [rlV] using this
    refine (Any.sort_Slice_cells_sorted sv6 22 24 svT svE (by kernel_rfl) (by kernel_rfl) (by kernel_rfl) (by kernel_rfl) 25 (fun _ => by kernel_rfl) rlV 3 (fun _ => rfl) (by kernel_rfl) (fun _ => by kernel_rfl)
      (fun x v hv => by simp [rlV] at hv; rcases hv with rfl | rfl | rfl <;> rfl) ltR swo_ltR 32 _
      (enters_of Try.func32 (by kernel_rfl) rfl) g 0 c o.toArray (by omega) (by omega) 79 (by rw [svK _ (by omega)]; kernel_rfl) false
      (fun args W => run_callFunc_extern Try.func79 (by kernel_rfl) (by kernel_rfl) (by kernel_rfl) (e := Extern.ReflectliteSwapper.swap false) (by kernel_rfl) args W) w hless hH hgl).mono ?_ |> fun k => by rw [hds] at k; exact k
    rintro e w' ⟨he, d', q, os, ⟨hp1, hp2, hp3⟩, hsrt, rfl⟩
    refine ⟨he, d'.toList, ?_, ?_, ?_, sorted_grown _⟩
    · have hz : d'.toList.length = o.length := by simpa using hp1
      simp at hp3
      rwa [List.take_of_length_le (by omega)] at hp3
    · rw [NoLess, List.pairwise_iff_getElem]
      intro i j hi hj hij
      have := hsrt i j (Nat.zero_le _) hij (by rw [← hp1]; simpa using hj)
      rw [getElem!_pos _ _ (by simpa using hj), getElem!_pos _ _ (by simpa using hi)] at this
      simpa [ltR] using this
    · have hsz : d'.toList.length = n := by rw [Array.length_toList, hp1, hds]
      have hHg := Sort.holdsK_grow rlV 3 (Sort.putRowK rlV 3 (Sort.ahead w q) g 0 d') os g 0 d' (by rw [Sort.size_putRowK]; exact hgl) (Sort.holdsK_putRowK rlV 3 _ g 0 o.toArray d' (Sort.holdsK_ahead rlV 3 w q g 0 _ hH) hp1)
      refine ⟨by rw [rls_len, hsz], own.sl.cap, own.sl.max, (fun h => by cases h), fun _ => ⟨_, rfl, ?_, fun j u hu => ?_⟩⟩
      · have := (sorted_grown (w := w) (g := g) (n := q) (os := os) d').size
        show g < _
        omega
      · have hj : j < d'.toList.length * 3 := by rw [← rls_len]; exact (List.getElem?_eq_some_iff.1 hu).1
        rw [flatK_rl _ hj] at hu
        injection hu with hu
        have := (hHg j (by rw [Sort.size_flatK]; simpa using hj)).1
        rw [Nat.zero_add] at this
        rw [add_lit0, this, ← hu]
end Go.Proofs.Ytfopihlbdceepaa
