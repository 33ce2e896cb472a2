/- Proves the parts of the claim that its last text joins: Read, Text. Conditions: those that each theorem names. -/
import Derived.Test.YtjpbjghdplbdcaaGreatDoorM17
import Derived.Test.YtjpbjghdplbdcaaGreatDoorM02
import Derived.Shelf.Strings.SplitShaped
import Derived.Shelf.Strings.Shaped
import Derived.Ground.NamesProg
import Derived.Test.YtjpbjghdplbdcaaGreatDoorM15
section
namespace Go.Proofs.YtjpbjghdplbdcaaGreatDoor
open Go.RowKit Go.Shelf
def laysCut_ren : Go.Shelf.Ren := ⟨fun | 145 => 9 | 220 => 24 | 219 => 75 | 217 => 156 | 225 => 157 | 224 => 158 | 267 => 159 | 266 => 221 | 314 => 222 | n => n, fun | 9 => 9 | 4 => 4 | 59 => 30 | 3 => 3 | 5 => 5 | 46 => 166 | 146 => 239 | 51 => 238 | n => n, fun | 1 => 0 | n => n⟩
theorem laysCut : Go.Proofs.LaysM.n145 Tryz.prog laysCut_ren := {
  mixed := by kernel_rfl
  f145 := Tryz.func9.trans (congrArg some (by kernel_rfl))
  f217 := Tryz.func156.trans (congrArg some (by kernel_rfl))
  f219 := Tryz.func75.trans (congrArg some (by kernel_rfl))
  f220 := Tryz.func24.trans (congrArg some (by kernel_rfl))
  f224 := Tryz.func158.trans (congrArg some (by kernel_rfl))
  f225 := Tryz.func157.trans (congrArg some (by kernel_rfl))
  f266 := Tryz.func221.trans (congrArg some (by kernel_rfl))
  f267 := Tryz.func159.trans (congrArg some (by kernel_rfl))
  f314 := Tryz.func222.trans (congrArg some (by kernel_rfl))
  t3 := Tryz.underlying3
  a3 := Tryz.isAgg3
  z3 := Tryz.sizeOf3
  v3 := Tryz.zeroValue3
  t4 := Tryz.underlying4
  a4 := Tryz.isAgg4
  z4 := Tryz.sizeOf4
  v4 := Tryz.zeroValue4
  t5 := Tryz.underlying5
  a5 := Tryz.isAgg5
  z5 := Tryz.sizeOf5
  v5 := Tryz.zeroValue5
  t9 := Tryz.underlying9
  a9 := Tryz.isAgg9
  z9 := Tryz.sizeOf9
  v9 := Tryz.zeroValue9
  t46 := Tryz.underlying166
  a46 := Tryz.isAgg166
  z46 := Tryz.sizeOf166
  v46 := Tryz.zeroValue166
  t51 := Tryz.underlying238
  a51 := Tryz.isAgg238
  z51 := Tryz.sizeOf238
  v51 := Tryz.zeroValue238
  t59 := Tryz.underlying30
  a59 := Tryz.isAgg30
  z59 := Tryz.sizeOf30
  v59 := Tryz.zeroValue30
  t146 := Tryz.underlying239
  a146 := Tryz.isAgg239
  z146 := Tryz.sizeOf239
  v146 := Tryz.zeroValue239
  g1 := by kernel_rfl
  i3 := by kernel_rfl
  i4 := by kernel_rfl
  i5 := by kernel_rfl
  i9 := by kernel_rfl
  i46 := by kernel_rfl
  i51 := by kernel_rfl
  i59 := by kernel_rfl
  i146 := by kernel_rfl
  m1 := by kernel_rfl
  s1_3 := fun w h => Go.Proofs.cell_of_shapedOpen_int (zero := #[.int .i64 0]) (t := 3) h (of_decide_eq_true (by kernel_rfl)) (by kernel_rfl) rfl (by kernel_rfl) (by kernel_rfl) Tryz.underlying3 }
def laysSplit_ren : Go.Shelf.Ren := ⟨fun | 146 => 14 | 221 => 28 | 268 => 78 | 138 => 79 | 143 => 80 | 195 => 160 | 197 => 161 | 218 => 162 | 219 => 75 | 260 => 223 | 217 => 156 | 225 => 157 | 224 => 158 | 267 => 159 | 266 => 221 | 314 => 222 | n => n, fun | 9 => 9 | 31 => 28 | 3 => 3 | 4 => 4 | 0 => 0 | 105 => 192 | 21 => 21 | 5 => 5 | 46 => 166 | 119 => 284 | 139 => 287 | 138 => 286 | 146 => 239 | 51 => 238 | n => n, fun | 1 => 0 | 3 => 3 | 4 => 4 | n => n⟩
theorem laysSplit : Go.Proofs.LaysM.n146 Tryz.prog laysSplit_ren := {
  mixed := by kernel_rfl
  f138 := Tryz.func79.trans (congrArg some (by kernel_rfl))
  f143 := Tryz.func80.trans (congrArg some (by kernel_rfl))
  f146 := Tryz.func14.trans (congrArg some (by kernel_rfl))
  f195 := Tryz.func160.trans (congrArg some (by kernel_rfl))
  f197 := Tryz.func161.trans (congrArg some (by kernel_rfl))
  f217 := Tryz.func156.trans (congrArg some (by kernel_rfl))
  f218 := Tryz.func162.trans (congrArg some (by kernel_rfl))
  f219 := Tryz.func75.trans (congrArg some (by kernel_rfl))
  f221 := Tryz.func28.trans (congrArg some (by kernel_rfl))
  f224 := Tryz.func158.trans (congrArg some (by kernel_rfl))
  f225 := Tryz.func157.trans (congrArg some (by kernel_rfl))
  f260 := Tryz.func223.trans (congrArg some (by kernel_rfl))
  f266 := Tryz.func221.trans (congrArg some (by kernel_rfl))
  f267 := Tryz.func159.trans (congrArg some (by kernel_rfl))
  f268 := Tryz.func78.trans (congrArg some (by kernel_rfl))
  f314 := Tryz.func222.trans (congrArg some (by kernel_rfl))
  t0 := Tryz.underlying0
  a0 := Tryz.isAgg0
  z0 := Tryz.sizeOf0
  v0 := Tryz.zeroValue0
  t3 := Tryz.underlying3
  a3 := Tryz.isAgg3
  z3 := Tryz.sizeOf3
  v3 := Tryz.zeroValue3
  t4 := Tryz.underlying4
  a4 := Tryz.isAgg4
  z4 := Tryz.sizeOf4
  v4 := Tryz.zeroValue4
  t5 := Tryz.underlying5
  a5 := Tryz.isAgg5
  z5 := Tryz.sizeOf5
  v5 := Tryz.zeroValue5
  t9 := Tryz.underlying9
  a9 := Tryz.isAgg9
  z9 := Tryz.sizeOf9
  v9 := Tryz.zeroValue9
  t21 := Tryz.underlying21
  a21 := Tryz.isAgg21
  z21 := Tryz.sizeOf21
  v21 := Tryz.zeroValue21
  t31 := Tryz.underlying28
  a31 := Tryz.isAgg28
  z31 := Tryz.sizeOf28
  v31 := Tryz.zeroValue28
  t46 := Tryz.underlying166
  a46 := Tryz.isAgg166
  z46 := Tryz.sizeOf166
  v46 := Tryz.zeroValue166
  t51 := Tryz.underlying238
  a51 := Tryz.isAgg238
  z51 := Tryz.sizeOf238
  v51 := Tryz.zeroValue238
  t105 := Tryz.underlying192
  a105 := Tryz.isAgg192
  z105 := Tryz.sizeOf192
  v105 := Tryz.zeroValue192
  t119 := Tryz.underlying284
  a119 := Tryz.isAgg284
  z119 := Tryz.sizeOf284
  t138 := Tryz.underlying286
  a138 := Tryz.isAgg286
  z138 := Tryz.sizeOf286
  v138 := Tryz.zeroValue286
  t139 := Tryz.underlying287
  a139 := Tryz.isAgg287
  z139 := Tryz.sizeOf287
  v139 := Tryz.zeroValue287
  t146 := Tryz.underlying239
  a146 := Tryz.isAgg239
  z146 := Tryz.sizeOf239
  v146 := Tryz.zeroValue239
  g1 := by kernel_rfl
  g3 := by kernel_rfl
  g4 := by kernel_rfl
  i0 := by kernel_rfl
  i3 := by kernel_rfl
  i4 := by kernel_rfl
  i5 := by kernel_rfl
  i9 := by kernel_rfl
  i21 := by kernel_rfl
  i31 := by kernel_rfl
  i46 := by kernel_rfl
  i51 := by kernel_rfl
  i105 := by kernel_rfl
  i138 := by kernel_rfl
  i139 := by kernel_rfl
  i146 := by kernel_rfl
  m1 := by kernel_rfl
  s1_3 := fun w h => Go.Proofs.cell_of_shapedOpen_int (zero := #[.int .i64 0]) (t := 3) h (of_decide_eq_true (by kernel_rfl)) (by kernel_rfl) rfl (by kernel_rfl) (by kernel_rfl) Tryz.underlying3
  m3 := by kernel_rfl
  m4 := by kernel_rfl }
def MaxSet (w : World) : Prop := ∃ m, w.cell? ⟨laysCut_ren.g 1, 0, none⟩ = some (.int .i64 m)
theorem MaxSet.of {w : World} (h : w.ShapedOpen Tryz.prog) : MaxSet w := laysCut.s1_3 w h
theorem MaxSet.below {w w' : World} (h : MaxSet w) (hb : Below w.heap.size w w') : MaxSet w' := by
  obtain ⟨m, hm⟩ := h
  exact ⟨m, (hb.cell (p := ⟨laysCut_ren.g 1, 0, none⟩) (block_lt hm)).trans hm⟩
theorem cut_any {x : List UInt8} (hx : x.length ≤ 1000) {w : World} (hm : MaxSet w) : Calls Tryz.prog 9 #[.string (tx x), .string ⟨#[61]⟩] w fun e w' => e = .returned (.tuple #[.string (tx (cutB 61 x)), .string (tx (cutA 61 x)), .bool (cutOk 61 x)]) ∧ ∃ q, w' = w.drewN q := by
  obtain ⟨m, hm⟩ := hm
  have k := Any.strings_Cut { laysCut with } (tx x) ⟨#[61]⟩ m w (by rw [tx_size]; omega) hm
  rw [show (tx x).data.toList = x from rfl, show (⟨#[61]⟩ : ByteArray).data.toList = [61] from rfl, cut_is] at k
  exact k
theorem pieces_le (c : UInt8) : ∀ (l x : List UInt8), x ∈ pieces c l → x.length ≤ l.length
  | [], x, h => by simp [pieces] at h; subst h; exact Nat.le_refl _
  | b :: l, x, h => by
    unfold pieces at h
    split at h
    · rcases List.mem_cons.1 h with rfl | h
      · exact Nat.zero_le _
      · exact Nat.le_succ_of_le (pieces_le c l x h)
    · rcases List.mem_cons.1 h with rfl | h
      · have hne := pieces_ne c l
        obtain ⟨y, r, hy⟩ := List.exists_cons_of_ne_nil hne
        have := pieces_le c l y (by rw [hy]; exact List.mem_cons_self ..)
        rw [hy]
        simp
        exact this
      · have := pieces_le c l x (List.mem_of_mem_tail h)
        simp; omega
theorem pieces_count (c : UInt8) : ∀ l : List UInt8, (pieces c l).length ≤ l.length + 1
  | [] => by simp [pieces]
  | b :: l => by
    have ih := pieces_count c l
    unfold pieces
    split
    · simp; omega
    · simp; omega
theorem split_any {l : List UInt8} (hl : l.length ≤ 1000) {w : World} (hm : MaxSet w) : Calls Tryz.prog 14 #[.string (tx l), .string ⟨#[44]⟩] w fun e w' =>
    e = .returned (.slice (some ⟨w.heap.size, 0, none⟩) (pieces 44 l).length (pieces 44 l).length) ∧ w' = w.alloc (.cells ((pieces 44 l).map fun x => Value.string (tx x)).toArray 9) := by
  obtain ⟨m, hm⟩ := hm
  have k := Any.strings_Split { laysSplit with } laysSplit.i9 (tx l) ⟨#[44]⟩ m w (by rw [tx_size]; omega) hm (by decide)
  have hd : (Lib.splitB ⟨#[44]⟩ 0 (Lib.countB (tx l) ⟨#[44]⟩) (tx l)).map (·.data.toList) = pieces 44 l := by
    rw [Lib.splitB_data, ← split_is]
    rfl
  have hl2 : Lib.countB (tx l) ⟨#[44]⟩ + 1 = (pieces 44 l).length := by
    rw [← hd, List.length_map, Lib.splitB_all _ (by decide) 0 _ _ rfl]
  have hp : Lib.splitB ⟨#[44]⟩ 0 (Lib.countB (tx l) ⟨#[44]⟩) (tx l) = (pieces 44 l).map tx := by
    rw [← hd, List.map_map]
    conv => lhs; rw [← List.map_id (Lib.splitB _ _ _ _)]
    rfl
  rw [hl2, hp, List.map_map] at k
  exact k
theorem cutB_le (c : UInt8) : ∀ l : List UInt8, (cutB c l).length ≤ l.length ∧ (cutA c l).length ≤ l.length
  | [] => by simp [cutB, cutA]
  | b :: l => by
    obtain ⟨h1, h2⟩ := cutB_le c l
    unfold cutB cutA
    split
    · simp
    · simp; omega
theorem rdAll_len (l : List UInt8) : (rdAll l).length = (pieces 44 l).length := by simp [rdAll]
theorem rdAll_at {l x : List UInt8} {k : Nat} (h : (pieces 44 l)[k]? = some x) : (rdAll l)[k]? = some (rdPair x) := by simp [rdAll, h]
theorem rdAll_next {l x : List UInt8} {k : Nat} (h : (pieces 44 l)[k]? = some x) : (rdAll l).take (k + 1) = (rdAll l).take k ++ [rdPair x] := by rw [List.take_add_one, rdAll_at h]; rfl
theorem rdAll_fit {l : List UInt8} (hl : l.length ≤ 1000) : Fit (rdAll l) := by
  intro p hp
  obtain ⟨x, hx, rfl⟩ := List.mem_map.1 hp
  have h1 := pieces_le 44 l x hx
  obtain ⟨h2, h3⟩ := cutB_le 61 x
  have e1 : (rdPair x).1.size = (cutB 61 x).length := tx_size _
  have e2 : (rdPair x).2.size = (cutA 61 x).length := tx_size _
  omega
def okPre (l : List UInt8) (k : Nat) : Prop := ∀ (i : Nat) (x : List UInt8), i < k → (pieces 44 l)[i]? = some x → cutOk 61 x = true
theorem okPre_next {l x : List UInt8} {k : Nat} (h : okPre l k) (hx : (pieces 44 l)[k]? = some x) (hc : cutOk 61 x = true) : okPre l (k + 1) := by
  intro i y hi hy
  by_cases e : i = k
  · subst e
    rw [hx] at hy
    injection hy with hy
    subst hy
    exact hc
  · exact h i y (by omega) hy
theorem rdErr_large {l : List UInt8} (h : 200 < l.length) : rdErr l = 2 := if_pos h
theorem rdErr_none {l : List UInt8} (h : l.length = 0) : rdErr l = 0 := by unfold rdErr; rw [if_neg (by omega), if_pos h]
theorem rdErr_form {l x : List UInt8} {k : Nat} (h : ¬ 200 < l.length) (h0 : ¬ l.length = 0) (hx : (pieces 44 l)[k]? = some x) (hc : cutOk 61 x = false) : rdErr l = 3 := by
  unfold rdErr
  rw [if_neg h, if_neg h0, if_neg]
  intro hr
  unfold rdOk at hr
  have := List.all_eq_true.1 hr x (List.mem_of_getElem? hx)
  rw [hc] at this
  cases this
theorem rdErr_all {l : List UInt8} (h : ¬ 200 < l.length) (h0 : ¬ l.length = 0) (hk : okPre l (pieces 44 l).length) : rdErr l = prErr (pieces 44 l).length (rdAll l) := by
  unfold rdErr
  rw [if_neg h, if_neg h0, if_pos, rdAll_len]
  unfold rdOk
  rw [List.all_eq_true]
  intro x hx
  obtain ⟨i, hi⟩ := List.getElem?_of_mem hx
  exact hk i x (List.getElem?_eq_some_iff.1 hi).1 hi
theorem rdRes_bad {l : List UInt8} (h : ¬ rdErr l = 0) : rdRes l = [] := if_neg h
theorem rdRes_ok {l : List UInt8} (h : rdErr l = 0) (h0 : ¬ l.length = 0) : rdRes l = rdAll l := by unfold rdRes; rw [if_pos h, if_neg h0]
theorem rdRes_none {l : List UInt8} (h0 : l.length = 0) : rdRes l = [] := by unfold rdRes; rw [if_pos h0]; split <;> rfl
set_option maxRecDepth 20000 in
set_option maxHeartbeats 3200000 in
theorem sread_any {l : List UInt8} (hl : l.length ≤ 140737488351232) {w : World} (hm : MaxSet w) :
    Calls Tryz.prog 108 #[.string (tx l)] w (SetRet w (rdRes l) (rdErr l)) := by
  have hsz := tx_size l
  by_cases g1 : 200 < l.length
  · rw [rdErr_large g1, rdRes_bad (by rw [rdErr_large g1]; decide)]
    generalize tx l = s at hsz ⊢
    go_enter Tryz.func108, Tryz.ntmps108
    go_wp2_with fail
    go_ret2
    exact setRet_nil (Below.refl _ _)
  · by_cases g0 : l.length = 0
    · have hl0 : l = [] := List.eq_nil_of_length_eq_zero g0
      subst hl0
      rw [rdErr_none rfl, rdRes_none rfl]
      have e0 := empty_yes
      generalize tx [] = s at hsz e0 ⊢
      go_enter Tryz.func108, Tryz.ntmps108
      go_wp2_with fail
      go_ret2
      exact setRet_nil (Below.refl _ _)
    · have e0 := empty_no (l := l) (by intro e; rw [e] at g0; exact g0 rfl)
      have HSP := hide (fun w (hm : MaxSet w) => split_any (l := l) (by omega) (w := w) hm)
      have HM := hide hm
      have G1 := hide g1
      have G0 := hide g0
      have hpc := pieces_count 44 l
      obtain ⟨N, hN⟩ : ∃ N, (pieces 44 l).length = N := ⟨_, rfl⟩
      have hN1 : N ≤ 201 := by omega
      have HNE := hide hN
      rw [hN] at HSP
      obtain ⟨S, hS⟩ : ∃ S, tx l = S := ⟨_, rfl⟩
      rw [hS] at HSP hsz e0 ⊢
      clear hS hN hpc g0 hm
      go_enter Tryz.func108, Tryz.ntmps108
      go_wp2_with fail
      refine (HSP.out _ HM.out).mono ?_
      rintro e w1 ⟨rfl, hw1⟩
      have bs1 : Blk w1 w.heap.size 9 ((pieces 44 l).map fun x => Value.string (tx x)).toArray := by rw [hw1]; exact Blk.new w _ _
      have k1 : Below w.heap.size w w1 := by rw [hw1]; exact below_alloc (Below.refl _ _) _
      have hz1 : w.heap.size < w1.heap.size := bs1.lt
      clear hw1
      go_wp2_with fail
      go_loopw [4, 19] (fun v i wr => ∃ (k : Nat) (A' : Option Addr) (c' : Nat), k ≤ N ∧ i = .int .i64 k ∧ v = .slice A' k c' ∧ Hid (okPre l k) ∧ Own wr w1.heap.size 171 2 A' k c' (sps ((rdAll l).take k)) ∧ Below w1.heap.size w1 wr) (fun _ i _ => N - (intOf i).toNat)
      case atStart => exact ⟨0, none, 0, by omega, rfl, rfl, hide (fun i x hi => by omega), Own.nil _ _ _ _, Below.refl _ _⟩
      case round =>
        obtain ⟨k, A', c', hk, rfl, rfl, HO, own, hb⟩ := hrel
        have hkw := below_on k1 hb
        have hzr : w1.heap.size ≤ wr.heap.size := hb.size
        by_cases hlt : k < N
        · obtain ⟨x, hx⟩ : ∃ x, (pieces 44 l)[k]? = some x := ⟨_, List.getElem?_eq_getElem (by rw [HNE.out]; exact hlt)⟩
          have hxl := pieces_le 44 l x (List.mem_of_getElem? hx)
          have hc0 : wr.cell? ⟨w.heap.size, k, none⟩ = some (.string (tx x)) := (bs1.below hb hz1).at_ (by simp [hx])
          have HC := hide (cut_any (x := x) (by omega) (HM.out.below hkw))
          have HX := hide hx
          have HP : Hid (rdPair x = (tx (cutB 61 x), tx (cutA 61 x))) := hide rfl
          obtain ⟨T, hT⟩ : ∃ T, tx x = T := ⟨_, rfl⟩
          rw [hT] at HC hc0
          obtain ⟨B1, hB1⟩ : ∃ B1, tx (cutB 61 x) = B1 := ⟨_, rfl⟩
          obtain ⟨B2, hB2⟩ : ∃ B2, tx (cutA 61 x) = B2 := ⟨_, rfl⟩
          rw [hB1, hB2] at HC HP
          clear hx hT hB1 hB2
          cases hcc : cutOk 61 x
          · have HE := hide (rdErr_form G1.out G0.out HX.out hcc)
            rw [hcc] at HC
            clear hcc
            go_wp2_with fail
            refine HC.out.mono ?_
            rintro e w2 ⟨rfl, q, rfl⟩
            go_wp2_with fail
            rw [HE.out, rdRes_bad (by rw [HE.out]; decide)]
            go_ret2
            exact setRet_nil (below_drewN hkw q)
          · have HON := hide (okPre_next HO.out HX.out hcc)
            have HRN := hide (rdAll_next HX.out)
            rw [HP.out] at HRN
            rw [hcc] at HC
            clear hcc
            go_wp2_with fail
            refine HC.out.mono ?_
            rintro e w2 ⟨rfl, q, rfl⟩
            go_wp2_with (at_builtin; refine wpList_append_sl T_pair rfl _ _ rfl (by rfl) (by rfl) ((own.drewN q).alloc _) (Sl.blk 2 1 (cs := sps [(B1, B2)]) (e := 171) (at_new _ _) rfl (by simp [maxLen])) (sps_one [(B1, B2)]) (by simp only [maxLen]; omega) (by omega) (by simp <;> omega) ?_; intro A3 c3 w3 ap)
            have own3 := ap.own
            rw [← sps_append, ← HRN.out] at own3
            have b3 : Below w1.heap.size w1 w3 := ((below_drewN hb q).alloc (by simp <;> omega) _).trans ap.below
            clear ap own
            go_wp2_with fail
            exact ⟨⟨k + 1, A3, c3, by omega, by go_num, rfl, HON, own3, b3⟩, by simp [intOf]; omega⟩
        · obtain rfl : k = N := by omega
          have HA := hide (show (rdAll l).take k = rdAll l by rw [← HNE.out, ← rdAll_len, List.take_length])
          rw [HA.out] at own
          have HCK := hide (scheck_any own.sl (rdAll_fit (by omega)))
          have HRE := hide (show rdErr l = prErr k (rdAll l) by rw [rdErr_all G1.out G0.out (by rw [HNE.out]; exact HO.out), HNE.out])
          obtain ⟨E, hE⟩ : ∃ E, prErr k (rdAll l) = E := ⟨_, rfl⟩
          rw [hE] at HCK HRE
          have sl1 := own.sl
          clear hE own
          by_cases h0 : E = 0
          · subst h0
            go_wp2_with fail
            refine HCK.out.mono ?_
            rintro e w2 ⟨rfl, bel2⟩
            go_wp2_with fail
            rw [HRE.out, rdRes_ok HRE.out G0.out]
            go_ret2
            exact ⟨A', k, c', rfl, sl1.on bel2, below_on hkw bel2⟩
          · have t1 : (E != 0) = true := by simpa using h0
            have HN0 := hide h0
            clear h0
            go_wp2_with fail
            refine HCK.out.mono ?_
            rintro e w2 ⟨rfl, bel2⟩
            go_wp2_with fail
            rw [HRE.out, rdRes_bad (by rw [HRE.out]; exact HN0.out)]
            go_ret2
            exact setRet_nil (below_on hkw bel2)
end Go.Proofs.YtjpbjghdplbdcaaGreatDoor
end
section
namespace Go.Proofs.YtjpbjghdplbdcaaGreatDoor
open Go.RowKit Go.Shelf
theorem txTo_next {ps : List Pr} {k : Nat} {p : Pr} (h : ps[k]? = some p) : txTo ps (k + 1) = txTo ps k ++ (if k = 0 then [] else [44]) ++ prText p := by rw [txTo, getD_of h]
theorem txTo_len {ps : List Pr} : ∀ {j k : Nat}, j ≤ k → (txTo ps j).length ≤ (txTo ps k).length
  | j, 0, h => by rw [show j = 0 by omega]; exact Nat.le_refl _
  | j, k + 1, h => by
    by_cases e : j = k + 1
    · rw [e]; exact Nat.le_refl _
    · refine Nat.le_trans (txTo_len (show j ≤ k by omega)) ?_
      rw [txTo, List.length_append, List.length_append]; omega
theorem text_size {ps : List Pr} {k : Nat} {p : Pr} (h : ps[k]? = some p) : (txTo ps k).length + p.1.size + p.2.size + 1 ≤ (txTo ps (k + 1)).length := by
  rw [txTo_next h, List.length_append, List.length_append, prText, List.length_append, List.length_cons]
  have e1 : (bl p.1).length = p.1.size := by show p.1.data.toList.length = p.1.data.size; rw [Array.length_toList]
  have e2 : (bl p.2).length = p.2.size := by show p.2.data.toList.length = p.2.data.size; rw [Array.length_toList]
  omega
end Go.Proofs.YtjpbjghdplbdcaaGreatDoor
end
