/-
  state.Read: the walk. Conditions: the text's length; what the library's own number says.
-/
import Derived.Test.YtkliebhpdcjdgaaDoorSet
import Derived.Test.YtkliebhpdcjdgaaDoorSplitP
import Derived.Shelf.Strings.SplitShaped
import Derived.Shelf.Strings.Shaped
import Derived.Ground.NamesProg
namespace Go.Proofs.YtkliebhpdcjdgaaDoor
open Go.RowKit Go.Shelf

def laysCut_ren : Go.Shelf.Ren := ⟨fun | 145 => 42 | 220 => 61 | 219 => 74 | 217 => 67 | 225 => 85 | 224 => 86 | 267 => 87 | 266 => 79 | 314 => 91 | n => n, fun | 9 => 9 | 4 => 4 | 59 => 67 | 3 => 3 | 5 => 5 | 46 => 63 | 146 => 116 | 51 => 115 | n => n, fun | 1 => 2 | n => n⟩
theorem laysCut : Go.Proofs.LaysM.n145 Tryd.prog laysCut_ren := {
  mixed := by kernel_rfl
  f145 := Tryd.func42.trans (congrArg some (by kernel_rfl))
  f217 := Tryd.func67.trans (congrArg some (by kernel_rfl))
  f219 := Tryd.func74.trans (congrArg some (by kernel_rfl))
  f220 := Tryd.func61.trans (congrArg some (by kernel_rfl))
  f224 := Tryd.func86.trans (congrArg some (by kernel_rfl))
  f225 := Tryd.func85.trans (congrArg some (by kernel_rfl))
  f266 := Tryd.func79.trans (congrArg some (by kernel_rfl))
  f267 := Tryd.func87.trans (congrArg some (by kernel_rfl))
  f314 := Tryd.func91.trans (congrArg some (by kernel_rfl))
  t3 := Tryd.underlying3
  a3 := Tryd.isAgg3
  z3 := Tryd.sizeOf3
  v3 := Tryd.zeroValue3
  t4 := Tryd.underlying4
  a4 := Tryd.isAgg4
  z4 := Tryd.sizeOf4
  v4 := Tryd.zeroValue4
  t5 := Tryd.underlying5
  a5 := Tryd.isAgg5
  z5 := Tryd.sizeOf5
  v5 := Tryd.zeroValue5
  t9 := Tryd.underlying9
  a9 := Tryd.isAgg9
  z9 := Tryd.sizeOf9
  v9 := Tryd.zeroValue9
  t46 := Tryd.underlying63
  a46 := Tryd.isAgg63
  z46 := Tryd.sizeOf63
  v46 := Tryd.zeroValue63
  t51 := Tryd.underlying115
  a51 := Tryd.isAgg115
  z51 := Tryd.sizeOf115
  v51 := Tryd.zeroValue115
  t59 := Tryd.underlying67
  a59 := Tryd.isAgg67
  z59 := Tryd.sizeOf67
  v59 := Tryd.zeroValue67
  t146 := Tryd.underlying116
  a146 := Tryd.isAgg116
  z146 := Tryd.sizeOf116
  v146 := Tryd.zeroValue116
  g1 := by kernel_rfl
  i3 := by kernel_rfl
  i4 := by kernel_rfl
  i5 := by kernel_rfl
  i9 := by kernel_rfl
  i46 := by kernel_rfl
  i51 := by kernel_rfl
  i59 := by kernel_rfl
  i146 := by kernel_rfl
  m1 := by kernel_rfl
  s1_3 := fun w h => Go.Proofs.cell_of_shapedOpen_int (zero := #[.int .i64 0]) (t := 3) h (of_decide_eq_true (by kernel_rfl)) (by kernel_rfl) rfl (by kernel_rfl) (by kernel_rfl) Tryd.underlying3 }
def laysSplit_ren : Go.Shelf.Ren := ⟨fun | 146 => 41 | 221 => 60 | 268 => 71 | 138 => 72 | 143 => 73 | 195 => 82 | 197 => 83 | 218 => 84 | 219 => 74 | 260 => 90 | 217 => 67 | 225 => 85 | 224 => 86 | 267 => 87 | 266 => 79 | 314 => 91 | n => n, fun | 9 => 9 | 31 => 64 | 3 => 3 | 4 => 4 | 0 => 0 | 105 => 108 | 21 => 21 | 5 => 5 | 46 => 63 | 119 => 119 | 139 => 122 | 138 => 121 | 146 => 116 | 51 => 115 | n => n, fun | 1 => 2 | 3 => 3 | 4 => 4 | n => n⟩
theorem laysSplit : Go.Proofs.LaysM.n146 Tryd.prog laysSplit_ren := {
  mixed := by kernel_rfl
  f138 := Tryd.func72.trans (congrArg some (by kernel_rfl))
  f143 := Tryd.func73.trans (congrArg some (by kernel_rfl))
  f146 := Tryd.func41.trans (congrArg some (by kernel_rfl))
  f195 := Tryd.func82.trans (congrArg some (by kernel_rfl))
  f197 := Tryd.func83.trans (congrArg some (by kernel_rfl))
  f217 := Tryd.func67.trans (congrArg some (by kernel_rfl))
  f218 := Tryd.func84.trans (congrArg some (by kernel_rfl))
  f219 := Tryd.func74.trans (congrArg some (by kernel_rfl))
  f221 := Tryd.func60.trans (congrArg some (by kernel_rfl))
  f224 := Tryd.func86.trans (congrArg some (by kernel_rfl))
  f225 := Tryd.func85.trans (congrArg some (by kernel_rfl))
  f260 := Tryd.func90.trans (congrArg some (by kernel_rfl))
  f266 := Tryd.func79.trans (congrArg some (by kernel_rfl))
  f267 := Tryd.func87.trans (congrArg some (by kernel_rfl))
  f268 := Tryd.func71.trans (congrArg some (by kernel_rfl))
  f314 := Tryd.func91.trans (congrArg some (by kernel_rfl))
  t0 := Tryd.underlying0
  a0 := Tryd.isAgg0
  z0 := Tryd.sizeOf0
  v0 := Tryd.zeroValue0
  t3 := Tryd.underlying3
  a3 := Tryd.isAgg3
  z3 := Tryd.sizeOf3
  v3 := Tryd.zeroValue3
  t4 := Tryd.underlying4
  a4 := Tryd.isAgg4
  z4 := Tryd.sizeOf4
  v4 := Tryd.zeroValue4
  t5 := Tryd.underlying5
  a5 := Tryd.isAgg5
  z5 := Tryd.sizeOf5
  v5 := Tryd.zeroValue5
  t9 := Tryd.underlying9
  a9 := Tryd.isAgg9
  z9 := Tryd.sizeOf9
  v9 := Tryd.zeroValue9
  t21 := Tryd.underlying21
  a21 := Tryd.isAgg21
  z21 := Tryd.sizeOf21
  v21 := Tryd.zeroValue21
  t31 := Tryd.underlying64
  a31 := Tryd.isAgg64
  z31 := Tryd.sizeOf64
  v31 := Tryd.zeroValue64
  t46 := Tryd.underlying63
  a46 := Tryd.isAgg63
  z46 := Tryd.sizeOf63
  v46 := Tryd.zeroValue63
  t51 := Tryd.underlying115
  a51 := Tryd.isAgg115
  z51 := Tryd.sizeOf115
  v51 := Tryd.zeroValue115
  t105 := Tryd.underlying108
  a105 := Tryd.isAgg108
  z105 := Tryd.sizeOf108
  v105 := Tryd.zeroValue108
  t119 := Tryd.underlying119
  a119 := Tryd.isAgg119
  z119 := Tryd.sizeOf119
  t138 := Tryd.underlying121
  a138 := Tryd.isAgg121
  z138 := Tryd.sizeOf121
  v138 := Tryd.zeroValue121
  t139 := Tryd.underlying122
  a139 := Tryd.isAgg122
  z139 := Tryd.sizeOf122
  v139 := Tryd.zeroValue122
  t146 := Tryd.underlying116
  a146 := Tryd.isAgg116
  z146 := Tryd.sizeOf116
  v146 := Tryd.zeroValue116
  g1 := by kernel_rfl
  g3 := by kernel_rfl
  g4 := by kernel_rfl
  i0 := by kernel_rfl
  i3 := by kernel_rfl
  i4 := by kernel_rfl
  i5 := by kernel_rfl
  i9 := by kernel_rfl
  i21 := by kernel_rfl
  i31 := by kernel_rfl
  i46 := by kernel_rfl
  i51 := by kernel_rfl
  i105 := by kernel_rfl
  i138 := by kernel_rfl
  i139 := by kernel_rfl
  i146 := by kernel_rfl
  m1 := by kernel_rfl
  s1_3 := fun w h => Go.Proofs.cell_of_shapedOpen_int (zero := #[.int .i64 0]) (t := 3) h (of_decide_eq_true (by kernel_rfl)) (by kernel_rfl) rfl (by kernel_rfl) (by kernel_rfl) Tryd.underlying3
  m3 := by kernel_rfl
  m4 := by kernel_rfl }
/-- The library's own number is set. -/
def MaxSet (w : World) : Prop := ∃ m, w.cell? ⟨laysCut_ren.g 1, 0, none⟩ = some (.int .i64 m)
theorem MaxSet.of {w : World} (h : w.ShapedOpen Tryd.prog) : MaxSet w := laysCut.s1_3 w h
theorem MaxSet.below {w w' : World} (h : MaxSet w) (hb : Below w.heap.size w w') : MaxSet w' := by
  obtain ⟨m, hm⟩ := h
  exact ⟨m, (hb.cell (p := ⟨laysCut_ren.g 1, 0, none⟩) (block_lt hm)).trans hm⟩
theorem cut_any {x : List UInt8} (hx : x.length ≤ 1000) {w : World} (hm : MaxSet w) : Calls Tryd.prog 42 #[.string (tx x), .string ⟨#[61]⟩] w fun e w' => e = .returned (.tuple #[.string (tx (cutB 61 x)), .string (tx (cutA 61 x)), .bool (cutOk 61 x)]) ∧ ∃ q, w' = w.drewN q := by
  obtain ⟨m, hm⟩ := hm
  have k := Any.strings_Cut { laysCut with } (tx x) ⟨#[61]⟩ m w (by rw [tx_size]; omega) hm
  rw [show (tx x).data.toList = x from rfl, show (⟨#[61]⟩ : ByteArray).data.toList = [61] from rfl, cut_is] at k
  exact k
theorem pieces_le (c : UInt8) : ∀ (l x : List UInt8), x ∈ pieces c l → x.length ≤ l.length
  | [], x, h => by simp [pieces] at h; subst h; exact Nat.le_refl _
  | b :: l, x, h => by
    unfold pieces at h
    split at h
    · rcases List.mem_cons.1 h with rfl | h
      · exact Nat.zero_le _
      · exact Nat.le_succ_of_le (pieces_le c l x h)
    · rcases List.mem_cons.1 h with rfl | h
      · have hne := pieces_ne c l
        obtain ⟨y, r, hy⟩ := List.exists_cons_of_ne_nil hne
        have := pieces_le c l y (by rw [hy]; exact List.mem_cons_self ..)
        rw [hy]
        simp
        exact this
      · have := pieces_le c l x (List.mem_of_mem_tail h)
        simp; omega
theorem pieces_count (c : UInt8) : ∀ l : List UInt8, (pieces c l).length ≤ l.length + 1
  | [] => by simp [pieces]
  | b :: l => by
    have ih := pieces_count c l
    unfold pieces
    split
    · simp; omega
    · simp; omega
theorem split_any {l : List UInt8} (hl : l.length ≤ 1000) {w : World} (hm : MaxSet w) : Calls Tryd.prog 41 #[.string (tx l), .string ⟨#[44]⟩] w fun e w' =>
    e = .returned (.slice (some ⟨w.heap.size, 0, none⟩) (pieces 44 l).length (pieces 44 l).length) ∧ w' = w.alloc (.cells ((pieces 44 l).map fun x => Value.string (tx x)).toArray 9) := by
  obtain ⟨m, hm⟩ := hm
  have k := Any.strings_Split { laysSplit with } laysSplit.i9 (tx l) ⟨#[44]⟩ m w (by rw [tx_size]; omega) hm (by decide)
  have hd : (Lib.splitB ⟨#[44]⟩ 0 (Lib.countB (tx l) ⟨#[44]⟩) (tx l)).map (·.data.toList) = pieces 44 l := by
    rw [Lib.splitB_data, ← split_is]
    rfl
  have hl2 : Lib.countB (tx l) ⟨#[44]⟩ + 1 = (pieces 44 l).length := by
    rw [← hd, List.length_map, Lib.splitB_all _ (by decide) 0 _ _ rfl]
  have hp : Lib.splitB ⟨#[44]⟩ 0 (Lib.countB (tx l) ⟨#[44]⟩) (tx l) = (pieces 44 l).map tx := by
    rw [← hd, List.map_map]
    conv => lhs; rw [← List.map_id (Lib.splitB _ _ _ _)]
    rfl
  rw [hl2, hp, List.map_map] at k
  exact k
theorem cutB_le (c : UInt8) : ∀ l : List UInt8, (cutB c l).length ≤ l.length ∧ (cutA c l).length ≤ l.length
  | [] => by simp [cutB, cutA]
  | b :: l => by
    obtain ⟨h1, h2⟩ := cutB_le c l
    unfold cutB cutA
    split
    · simp
    · simp; omega
theorem rdAll_len (l : List UInt8) : (rdAll l).length = (pieces 44 l).length := by simp [rdAll]
theorem rdAll_at {l x : List UInt8} {k : Nat} (h : (pieces 44 l)[k]? = some x) : (rdAll l)[k]? = some (rdPair x) := by simp [rdAll, h]
theorem rdAll_next {l x : List UInt8} {k : Nat} (h : (pieces 44 l)[k]? = some x) : (rdAll l).take (k + 1) = (rdAll l).take k ++ [rdPair x] := by rw [List.take_add_one, rdAll_at h]; rfl
theorem rdAll_fit {l : List UInt8} (hl : l.length ≤ 1000) : Fit (rdAll l) := by
  intro p hp
  obtain ⟨x, hx, rfl⟩ := List.mem_map.1 hp
  have h1 := pieces_le 44 l x hx
  obtain ⟨h2, h3⟩ := cutB_le 61 x
  have e1 : (rdPair x).1.size = (cutB 61 x).length := tx_size _
  have e2 : (rdPair x).2.size = (cutA 61 x).length := tx_size _
  omega
/-- The first k pieces hold the sign. -/
def okPre (l : List UInt8) (k : Nat) : Prop := ∀ (i : Nat) (x : List UInt8), i < k → (pieces 44 l)[i]? = some x → cutOk 61 x = true
theorem okPre_next {l x : List UInt8} {k : Nat} (h : okPre l k) (hx : (pieces 44 l)[k]? = some x) (hc : cutOk 61 x = true) : okPre l (k + 1) := by
  intro i y hi hy
  by_cases e : i = k
  · subst e
    rw [hx] at hy
    injection hy with hy
    subst hy
    exact hc
  · exact h i y (by omega) hy
theorem rdErr_large {l : List UInt8} (h : 200 < l.length) : rdErr l = 2 := if_pos h
theorem rdErr_none {l : List UInt8} (h : l.length = 0) : rdErr l = 0 := by unfold rdErr; rw [if_neg (by omega), if_pos h]
theorem rdErr_form {l x : List UInt8} {k : Nat} (h : ¬ 200 < l.length) (h0 : ¬ l.length = 0) (hx : (pieces 44 l)[k]? = some x) (hc : cutOk 61 x = false) : rdErr l = 3 := by
  unfold rdErr
  rw [if_neg h, if_neg h0, if_neg]
  intro hr
  unfold rdOk at hr
  have := List.all_eq_true.1 hr x (List.mem_of_getElem? hx)
  rw [hc] at this
  cases this
theorem rdErr_all {l : List UInt8} (h : ¬ 200 < l.length) (h0 : ¬ l.length = 0) (hk : okPre l (pieces 44 l).length) : rdErr l = prErr (pieces 44 l).length (rdAll l) := by
  unfold rdErr
  rw [if_neg h, if_neg h0, if_pos, rdAll_len]
  unfold rdOk
  rw [List.all_eq_true]
  intro x hx
  obtain ⟨i, hi⟩ := List.getElem?_of_mem hx
  exact hk i x (List.getElem?_eq_some_iff.1 hi).1 hi
theorem rdRes_bad {l : List UInt8} (h : ¬ rdErr l = 0) : rdRes l = [] := if_neg h
theorem rdRes_ok {l : List UInt8} (h : rdErr l = 0) (h0 : ¬ l.length = 0) : rdRes l = rdAll l := by unfold rdRes; rw [if_pos h, if_neg h0]
theorem rdRes_none {l : List UInt8} (h0 : l.length = 0) : rdRes l = [] := by unfold rdRes; rw [if_pos h0]; split <;> rfl
set_option maxRecDepth 20000 in
set_option maxHeartbeats 3200000 in
theorem sread_any {l : List UInt8} (hl : l.length ≤ 140737488351232) {w : World} (hm : MaxSet w) :
    Calls Tryd.prog 14 #[.string (tx l)] w (SetRet w (rdRes l) (rdErr l)) := by
  have hsz := tx_size l
  by_cases g1 : 200 < l.length
  · rw [rdErr_large g1, rdRes_bad (by rw [rdErr_large g1]; decide)]
    generalize tx l = s at hsz ⊢
    go_enter Tryd.func14, Tryd.ntmps14
    go_wp2_with fail
    go_ret2
    exact setRet_nil (Below.refl _ _)
  · by_cases g0 : l.length = 0
    · have hl0 : l = [] := List.eq_nil_of_length_eq_zero g0
      subst hl0
      rw [rdErr_none rfl, rdRes_none rfl]
      have e0 := empty_yes
      generalize tx [] = s at hsz e0 ⊢
      go_enter Tryd.func14, Tryd.ntmps14
      go_wp2_with fail
      go_ret2
      exact setRet_nil (Below.refl _ _)
    · have e0 := empty_no (l := l) (by intro e; rw [e] at g0; exact g0 rfl)
      have HSP := hide (fun w (hm : MaxSet w) => split_any (l := l) (by omega) (w := w) hm)
      have HM := hide hm
      have G1 := hide g1
      have G0 := hide g0
      have hpc := pieces_count 44 l
      obtain ⟨N, hN⟩ : ∃ N, (pieces 44 l).length = N := ⟨_, rfl⟩
      have hN1 : N ≤ 201 := by omega
      have HNE := hide hN
      rw [hN] at HSP
      obtain ⟨S, hS⟩ : ∃ S, tx l = S := ⟨_, rfl⟩
      rw [hS] at HSP hsz e0 ⊢
      clear hS hN hpc g0 hm
      go_enter Tryd.func14, Tryd.ntmps14
      go_wp2_with fail
      refine (HSP.out _ HM.out).mono ?_
      rintro e w1 ⟨rfl, hw1⟩
      have bs1 : Blk w1 w.heap.size 9 ((pieces 44 l).map fun x => Value.string (tx x)).toArray := by rw [hw1]; exact Blk.new w _ _
      have k1 : Below w.heap.size w w1 := by rw [hw1]; exact below_alloc (Below.refl _ _) _
      have hz1 : w.heap.size < w1.heap.size := bs1.lt
      clear hw1
      go_wp2_with fail
      go_loopw [4, 19] (fun v i wr => ∃ (k : Nat) (A' : Option Addr) (c' : Nat), k ≤ N ∧ i = .int .i64 k ∧ v = .slice A' k c' ∧ Hid (okPre l k) ∧ Own wr w1.heap.size 45 2 A' k c' (sps ((rdAll l).take k)) ∧ Below w1.heap.size w1 wr) (fun _ i _ => N - (intOf i).toNat)
      case atStart => exact ⟨0, none, 0, by omega, rfl, rfl, hide (fun i x hi => by omega), Own.nil _ _ _ _, Below.refl _ _⟩
      case round =>
        obtain ⟨k, A', c', hk, rfl, rfl, HO, own, hb⟩ := hrel
        have hkw := below_on k1 hb
        have hzr : w1.heap.size ≤ wr.heap.size := hb.size
        by_cases hlt : k < N
        · obtain ⟨x, hx⟩ : ∃ x, (pieces 44 l)[k]? = some x := ⟨_, List.getElem?_eq_getElem (by rw [HNE.out]; exact hlt)⟩
          have hxl := pieces_le 44 l x (List.mem_of_getElem? hx)
          have hc0 : wr.cell? ⟨w.heap.size, k, none⟩ = some (.string (tx x)) := (bs1.below hb hz1).at_ (by simp [hx])
          have HC := hide (cut_any (x := x) (by omega) (HM.out.below hkw))
          have HX := hide hx
          have HP : Hid (rdPair x = (tx (cutB 61 x), tx (cutA 61 x))) := hide rfl
          obtain ⟨T, hT⟩ : ∃ T, tx x = T := ⟨_, rfl⟩
          rw [hT] at HC hc0
          obtain ⟨B1, hB1⟩ : ∃ B1, tx (cutB 61 x) = B1 := ⟨_, rfl⟩
          obtain ⟨B2, hB2⟩ : ∃ B2, tx (cutA 61 x) = B2 := ⟨_, rfl⟩
          rw [hB1, hB2] at HC HP
          clear hx hT hB1 hB2
          cases hcc : cutOk 61 x
          · have HE := hide (rdErr_form G1.out G0.out HX.out hcc)
            rw [hcc] at HC
            clear hcc
            go_wp2_with fail
            refine HC.out.mono ?_
            rintro e w2 ⟨rfl, q, rfl⟩
            go_wp2_with fail
            rw [HE.out, rdRes_bad (by rw [HE.out]; decide)]
            go_ret2
            exact setRet_nil (below_drewN hkw q)
          · have HON := hide (okPre_next HO.out HX.out hcc)
            have HRN := hide (rdAll_next HX.out)
            rw [HP.out] at HRN
            rw [hcc] at HC
            clear hcc
            go_wp2_with fail
            refine HC.out.mono ?_
            rintro e w2 ⟨rfl, q, rfl⟩
            go_wp2_with (at_builtin; refine wpList_append_sl T_pair rfl _ _ rfl (by rfl) (by rfl) ((own.drewN q).alloc _) (Sl.blk 2 1 (cs := sps [(B1, B2)]) (e := 45) (at_new _ _) rfl (by simp [maxLen])) (sps_one [(B1, B2)]) (by simp only [maxLen]; omega) (by omega) (by simp <;> omega) ?_; intro A3 c3 w3 ap)
            have own3 := ap.own
            rw [← sps_append, ← HRN.out] at own3
            have b3 : Below w1.heap.size w1 w3 := ((below_drewN hb q).alloc (by simp <;> omega) _).trans ap.below
            clear ap own
            go_wp2_with fail
            exact ⟨⟨k + 1, A3, c3, by omega, by go_num, rfl, HON, own3, b3⟩, by simp [intOf]; omega⟩
        · obtain rfl : k = N := by omega
          have HA := hide (show (rdAll l).take k = rdAll l by rw [← HNE.out, ← rdAll_len, List.take_length])
          rw [HA.out] at own
          have HCK := hide (scheck_any own.sl (rdAll_fit (by omega)))
          have HRE := hide (show rdErr l = prErr k (rdAll l) by rw [rdErr_all G1.out G0.out (by rw [HNE.out]; exact HO.out), HNE.out])
          obtain ⟨E, hE⟩ : ∃ E, prErr k (rdAll l) = E := ⟨_, rfl⟩
          rw [hE] at HCK HRE
          have sl1 := own.sl
          clear hE own
          by_cases h0 : E = 0
          · subst h0
            go_wp2_with fail
            refine HCK.out.mono ?_
            rintro e w2 ⟨rfl, bel2⟩
            go_wp2_with fail
            rw [HRE.out, rdRes_ok HRE.out G0.out]
            go_ret2
            exact ⟨A', k, c', rfl, sl1.on bel2, below_on hkw bel2⟩
          · have t1 : (E != 0) = true := by simpa using h0
            have HN0 := hide h0
            clear h0
            go_wp2_with fail
            refine HCK.out.mono ?_
            rintro e w2 ⟨rfl, bel2⟩
            go_wp2_with fail
            rw [HRE.out, rdRes_bad (by rw [HRE.out]; exact HN0.out)]
            go_ret2
            exact setRet_nil (below_on hkw bel2)
end Go.Proofs.YtkliebhpdcjdgaaDoor
