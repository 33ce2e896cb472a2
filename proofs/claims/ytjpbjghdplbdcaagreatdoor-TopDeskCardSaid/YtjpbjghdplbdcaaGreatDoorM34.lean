/- Proves the parts of the claim that its last text joins: Board1, Board2, Board3, Board4. Conditions: those that each theorem names. -/
import Derived.Test.YtjpbjghdplbdcaaGreatDoorM09
import Derived.Test.YtjpbjghdplbdcaaGreatDoorM05
import Derived.Test.YtjpbjghdplbdcaaGreatDoorM01
import Derived.Test.YtjpbjghdplbdcaaGreatDoorM10
import Derived.Laws.IdiomStrings
import Derived.Deep.QuietTactic
import Derived.BigQuiet
import Derived.Shelf.GgClosure.StringsIndexFuncTop
import Derived.Ground.GgwProg
import Derived.Laws.Cover1
import Derived.Laws.Strings
section
namespace Go.Proofs.YtjpbjghdplbdcaaGreatDoor
open Go.RowKit Go.Shelf
def laysCF_ren : Go.Shelf.Ren := ⟨fun | 17 => 306 | 15 => 342 | 20 => 358 | n => n, fun | 9 => 9 | 23 => 304 | 4 => 4 | 3 => 3 | 0 => 0 | 21 => 21 | n => n, fun | n => n⟩
theorem laysCF : Go.Proofs.LaysGw.n17 Tryz.prog laysCF_ren := {
  mixed := by kernel_rfl
  f15 := Tryz.func342.trans (congrArg some (by kernel_rfl))
  f17 := Tryz.func306.trans (congrArg some (by kernel_rfl))
  f20 := Tryz.func358.trans (congrArg some (by kernel_rfl))
  t0 := Tryz.underlying0
  a0 := Tryz.isAgg0
  z0 := Tryz.sizeOf0
  v0 := Tryz.zeroValue0
  i0 := by kernel_rfl
  t3 := Tryz.underlying3
  a3 := Tryz.isAgg3
  z3 := Tryz.sizeOf3
  v3 := Tryz.zeroValue3
  i3 := by kernel_rfl
  t4 := Tryz.underlying4
  a4 := Tryz.isAgg4
  z4 := Tryz.sizeOf4
  v4 := Tryz.zeroValue4
  i4 := by kernel_rfl
  t9 := Tryz.underlying9
  a9 := Tryz.isAgg9
  z9 := Tryz.sizeOf9
  v9 := Tryz.zeroValue9
  i9 := by kernel_rfl
  t21 := Tryz.underlying21
  a21 := Tryz.isAgg21
  z21 := Tryz.sizeOf21
  v21 := Tryz.zeroValue21
  i21 := by kernel_rfl
  t23 := Tryz.underlying304
  a23 := Tryz.isAgg304
  z23 := Tryz.sizeOf304
  v23 := Tryz.zeroValue304
  i23 := by kernel_rfl }
theorem enters_fn {f : FuncId} {fn : Func} {c : Code} (hf : Tryz.prog.funcs[f]? = some fn) (hname : (fn.name == "runtime.NumGoroutine") = false) (hb : fn.body = some c) (args : Array Value) (W : World) :
    (callFunc f args).run Tryz.prog W = .ok (.enter f args) W := by
  have h1 : fn.name ≠ "runtime.NumGoroutine" := by simpa using hname
  simp [callFunc, hf, h1, hb, mark]
def badRune (x : Nat) : Bool := decide (x < 33 ∨ 126 < x)
theorem decode_low {s : ByteArray} {i : Nat} (h : (s.get! i).toNat < 128) : Utf8.decode s i = ((s.get! i).toNat, 1) := by
  unfold Utf8.decode
  simp only [Nat.add_zero]
  rw [if_pos h]
theorem decode_high {s : ByteArray} {i : Nat} (h : ¬ (s.get! i).toNat < 128) : 126 < (Utf8.decode s i).1 := by
  unfold Utf8.decode
  simp only [Nat.add_zero]
  rw [if_neg h]
  have hr : 126 < Utf8.runeError := by decide
  split
  · split
    · rename_i hc; simp only [ge_iff_le] at hc; dsimp only; omega
    · exact hr
  · split
    · split
      · rename_i hc; simp only [ge_iff_le, Bool.and_eq_true, decide_eq_true_eq] at hc; dsimp only; omega
      · exact hr
    · split
      · split
        · rename_i hc; simp only [ge_iff_le, Bool.and_eq_true, decide_eq_true_eq] at hc; dsimp only; omega
        · exact hr
      · exact hr
theorem get_by8 {s : ByteArray} {i : Nat} (h : i < s.size) : (by8 s)[i]? = some (s.get! i) := by
  have h' : i < s.data.size := h
  show s.data.toList[i]? = _
  rw [Array.getElem?_toList, Array.getElem?_eq_getElem h']
  congr 1
  exact (getElem!_pos s.data i h').symm
theorem idx_bad {s : ByteArray} : ∀ (f pos : Nat), s.size ≤ pos + f → decide (0 ≤ Lib.idxFuncFrom badRune true s f pos) = ((by8 s).drop pos).any badByte
  | 0, pos, h => by
    rw [List.drop_of_length_le (by show s.data.toList.length ≤ pos; rw [Array.length_toList]; exact h)]
    rfl
  | f + 1, pos, h => by
    unfold Lib.idxFuncFrom
    by_cases hp : pos < s.size
    · rw [if_pos hp]
      have hg := get_by8 hp
      have hl : pos < (by8 s).length := (List.getElem?_eq_some_iff.1 hg).1
      have hd : (by8 s).drop pos = s.get! pos :: (by8 s).drop (pos + 1) := by
        rw [List.drop_eq_getElem_cons hl]
        congr 1
        have := List.getElem?_eq_getElem hl
        rw [hg] at this
        injection this with this
        exact this.symm
      rw [hd, List.any_cons]
      by_cases h8 : (s.get! pos).toNat < 128
      · rw [decode_low h8]
        dsimp only
        cases hb : badByte (s.get! pos) with
        | true =>
          have : badRune (s.get! pos).toNat = true := by
            have := of_decide_eq_true hb
            exact decide_eq_true this
          rw [if_pos this]
          simp
        | false =>
          have : ¬ badRune (s.get! pos).toNat = true := by
            have := of_decide_eq_false hb
            intro hc
            exact this (of_decide_eq_true hc)
          rw [if_neg this, idx_bad f (pos + 1) (by omega)]
          rfl
      · have := decode_high h8
        have hr : badRune (Utf8.decode s pos).1 = true := decide_eq_true (.inr this)
        have hb : badByte (s.get! pos) = true := decide_eq_true (.inr (by omega))
        rw [if_pos hr, hb]
        simp
    · rw [if_neg hp, List.drop_of_length_le (by show s.data.toList.length ≤ pos; rw [Array.length_toList]; show s.size ≤ pos; omega)]
      rfl
theorem idx_is (s : ByteArray) : decide (0 ≤ Lib.idxFunc badRune true s) = (by8 s).any badByte := idx_bad s.size 0 (by omega)
theorem bad1 (x : Nat) (w : World) : Calls Tryz.prog 307 #[.int .i32 x] w fun e w' => e = .returned (.bool (badRune x)) ∧ w = w' := by
  by_cases h1 : x < 33
  · have HB := hide (show badRune x = true from decide_eq_true (.inl h1))
    have h2 : (x : Int) < 33 := by omega
    go_enter Tryz.func307, Tryz.ntmps307
    go_wp2_with fail
    rw [HB.out]
    go_ret
    exact ⟨rfl, rfl⟩
  · by_cases h3 : 126 < x
    · have HB := hide (show badRune x = true from decide_eq_true (.inr h3))
      have h2 : ¬ (x : Int) < 33 := by omega
      have h4 : 126 < (x : Int) := by omega
      go_enter Tryz.func307, Tryz.ntmps307
      go_wp2_with fail
      rw [HB.out]
      go_ret
      exact ⟨rfl, rfl⟩
    · have HB := hide (show badRune x = false from decide_eq_false (by omega))
      have h2 : ¬ (x : Int) < 33 := by omega
      have h4 : ¬ 126 < (x : Int) := by omega
      go_enter Tryz.func307, Tryz.ntmps307
      go_wp2_with fail
      rw [HB.out]
      go_ret
      exact ⟨rfl, rfl⟩
theorem cf_any (s : ByteArray) {b : Bool} (hb : (by8 s).any badByte = b) (w : World) : Calls Tryz.prog 306 #[.string s, .func (.func 307) #[] #[]] w fun e w' => e = .returned (.bool b) ∧ Below w.heap.size w w' := by
  have k := Any.strings_ContainsFunc { laysCF with } 307 #[] (enters_fn Tryz.func307 rfl rfl) badRune s w
    (fun W x _ => (bad1 x W).mono fun e w' ⟨h1, h2⟩ => ⟨h1, 0, h2.symm⟩)
  rw [idx_is, hb] at k
  exact k
end Go.Proofs.YtjpbjghdplbdcaaGreatDoor
end
section
namespace Go.Proofs.YtjpbjghdplbdcaaGreatDoor
open Go.RowKit Go.Shelf
theorem preBad_len {s : ByteArray} (h : 16 < s.size) : preBad s = true := by unfold preBad; rw [decide_eq_true h]; rfl
theorem preBad_ok {s : ByteArray} {b : Bool} (h : ¬ 16 < s.size) (hb : (by8 s).any badByte = b) : preBad s = b := by unfold preBad; rw [decide_eq_false h, hb]; rfl
theorem oneErr_pre {r : Rul} (h : preBad r.1 = true) : oneErr r = 3 := if_pos h
theorem oneErr_arg {r : Rul} (h : preBad r.1 = false) (h2 : argBad r) : oneErr r = 1 := by unfold oneErr; rw [if_neg (by rw [h]; simp), if_pos h2]
theorem oneErr_ok {r : Rul} (h : preBad r.1 = false) (h2 : ¬ argBad r) : oneErr r = 0 := by unfold oneErr; rw [if_neg (by rw [h]; simp), if_neg h2]
theorem arg_ways (a b : Int) : a < 0 ∨ (¬ a < 0 ∧ 20 < a) ∨ (¬ a < 0 ∧ ¬ 20 < a ∧ b < 1) ∨ (¬ a < 0 ∧ ¬ 20 < a ∧ ¬ b < 1 ∧ 1000000000000 < b) ∨ (¬ a < 0 ∧ ¬ 20 < a ∧ ¬ b < 1 ∧ ¬ 1000000000000 < b) := by omega
set_option maxRecDepth 20000 in
set_option maxHeartbeats 3200000 in
theorem one_any (p : ByteArray) (a b : Int) (w : World) (hp : p.size ≤ 9223372036854775807) : Calls Tryz.prog 249 #[.agg #[.string p, .int .i64 a, .int .i64 b]] w fun e w' => e = .returned (.int .i64 (oneErr (p, a, b))) ∧ Below w.heap.size w w' := by
  have b0 := Blk.new w 132 #[.string p, .int .i64 a, .int .i64 b]
  have hb0 : Below w.heap.size w (w.alloc (.cells #[.string p, .int .i64 a, .int .i64 b] 132)) := by repeat' (first | assumption | with_reducible exact Below.refl _ _ | with_reducible apply Below.drew | with_reducible apply below_drewN | with_reducible apply below_alloc | with_reducible refine below_set ?_ ?_ _ | (simp only [World.size_alloc, World.heap_drewN]; omega) | (simp; omega))
  by_cases h16 : 16 < p.size
  · have HE := hide (oneErr_pre (r := (p, a, b)) (preBad_len h16))
    go_enter Tryz.func249, Tryz.ntmps249
    go_wp2_with fail
    rw [HE.out]
    go_ret
    exact ⟨rfl, hb0⟩
  · cases hc : (by8 p).any badByte with
    | true =>
      have HE := hide (oneErr_pre (r := (p, a, b)) (preBad_ok h16 hc))
      have CF := hide (fun w => cf_any p hc w)
      clear hc
      go_enter Tryz.func249, Tryz.ntmps249
      go_wp2_with fail
      refine (CF.out _).mono ?_
      rintro e w1 ⟨rfl, bel⟩
      go_wp2_with fail
      rw [HE.out]
      go_ret
      exact ⟨rfl, below_on hb0 bel⟩
    | false =>
      have hpre := preBad_ok h16 hc
      have CF := hide (fun w => cf_any p hc w)
      clear hc
      rcases arg_ways a b with h | ⟨h1, h⟩ | ⟨h1, h2, h⟩ | ⟨h1, h2, h3, h⟩ | ⟨h1, h2, h3, h⟩
      · have HE := hide (show oneErr (p, a, b) = 1 from oneErr_arg hpre (by unfold argBad; dsimp only; omega))
        go_enter Tryz.func249, Tryz.ntmps249
        go_wp2_with fail
        refine (CF.out _).mono ?_
        rintro e w1 ⟨rfl, bel⟩
        have b1 := b0.below bel b0.lt
        have c1 := b1.at_ (i := 1) (u := .int .i64 a) rfl
        have c2 := b1.at_ (i := 2) (u := .int .i64 b) rfl
        go_wp2_with fail
        rw [HE.out]
        go_ret
        exact ⟨rfl, below_on hb0 bel⟩
      · have HE := hide (show oneErr (p, a, b) = 1 from oneErr_arg hpre (by unfold argBad; dsimp only; omega))
        go_enter Tryz.func249, Tryz.ntmps249
        go_wp2_with fail
        refine (CF.out _).mono ?_
        rintro e w1 ⟨rfl, bel⟩
        have b1 := b0.below bel b0.lt
        have c1 := b1.at_ (i := 1) (u := .int .i64 a) rfl
        have c2 := b1.at_ (i := 2) (u := .int .i64 b) rfl
        go_wp2_with fail
        rw [HE.out]
        go_ret
        exact ⟨rfl, below_on hb0 bel⟩
      · have HE := hide (show oneErr (p, a, b) = 1 from oneErr_arg hpre (by unfold argBad; dsimp only; omega))
        go_enter Tryz.func249, Tryz.ntmps249
        go_wp2_with fail
        refine (CF.out _).mono ?_
        rintro e w1 ⟨rfl, bel⟩
        have b1 := b0.below bel b0.lt
        have c1 := b1.at_ (i := 1) (u := .int .i64 a) rfl
        have c2 := b1.at_ (i := 2) (u := .int .i64 b) rfl
        go_wp2_with fail
        rw [HE.out]
        go_ret
        exact ⟨rfl, below_on hb0 bel⟩
      · have HE := hide (show oneErr (p, a, b) = 1 from oneErr_arg hpre (by unfold argBad; dsimp only; omega))
        go_enter Tryz.func249, Tryz.ntmps249
        go_wp2_with fail
        refine (CF.out _).mono ?_
        rintro e w1 ⟨rfl, bel⟩
        have b1 := b0.below bel b0.lt
        have c1 := b1.at_ (i := 1) (u := .int .i64 a) rfl
        have c2 := b1.at_ (i := 2) (u := .int .i64 b) rfl
        go_wp2_with fail
        rw [HE.out]
        go_ret
        exact ⟨rfl, below_on hb0 bel⟩
      · have HE := hide (show oneErr (p, a, b) = 0 from oneErr_ok hpre (by unfold argBad; dsimp only; omega))
        go_enter Tryz.func249, Tryz.ntmps249
        go_wp2_with fail
        refine (CF.out _).mono ?_
        rintro e w1 ⟨rfl, bel⟩
        have b1 := b0.below bel b0.lt
        have c1 := b1.at_ (i := 1) (u := .int .i64 a) rfl
        have c2 := b1.at_ (i := 2) (u := .int .i64 b) rfl
        go_wp2_with fail
        rw [HE.out]
        go_ret
        exact ⟨rfl, below_on hb0 bel⟩
theorem newer_is (r s : Rul) (b : Bool) (h : newer r s = b) : (s.2.2 < r.2.2 ∧ b = true) ∨ (¬ s.2.2 < r.2.2 ∧ ¬ r.2.2 = s.2.2 ∧ b = false) ∨ (¬ s.2.2 < r.2.2 ∧ r.2.2 = s.2.2 ∧ s.2.1 < r.2.1 ∧ b = true) ∨ (¬ s.2.2 < r.2.2 ∧ r.2.2 = s.2.2 ∧ ¬ s.2.1 < r.2.1 ∧ b = false) := by
  subst h
  unfold newer
  by_cases h1 : s.2.2 < r.2.2
  · exact .inl ⟨h1, decide_eq_true (.inl h1)⟩
  · by_cases h2 : r.2.2 = s.2.2
    · by_cases h3 : s.2.1 < r.2.1
      · exact .inr (.inr (.inl ⟨h1, h2, h3, decide_eq_true (.inr ⟨h2, h3⟩)⟩))
      · exact .inr (.inr (.inr ⟨h1, h2, h3, decide_eq_false (by omega)⟩))
    · exact .inr (.inl ⟨h1, h2, decide_eq_false (by omega)⟩)
set_option maxRecDepth 20000 in
set_option maxHeartbeats 1600000 in
theorem newer_any (p q : ByteArray) (a b c d : Int) (w : World) {B : Bool} (h : newer (p, a, b) (q, c, d) = B) : Calls Tryz.prog 252 #[.agg #[.string p, .int .i64 a, .int .i64 b], .agg #[.string q, .int .i64 c, .int .i64 d]] w fun e w' => e = .returned (.bool B) ∧ Below w.heap.size w w' := by
  rcases newer_is _ _ _ h with ⟨h1, rfl⟩ | ⟨h1, h2, rfl⟩ | ⟨h1, h2, h3, rfl⟩ | ⟨h1, h2, h3, rfl⟩
  all_goals
    clear h
    dsimp only at *
  · go_enter Tryz.func252, Tryz.ntmps252
    go_wp2_with fail
    go_ret
    exact ⟨rfl, by repeat' (first | assumption | with_reducible exact Below.refl _ _ | with_reducible apply Below.drew | with_reducible apply below_drewN | with_reducible apply below_alloc | with_reducible refine below_set ?_ ?_ _ | (simp only [World.size_alloc, World.heap_drewN]; omega) | (simp; omega))⟩
  · have t : (b == d) = false := by simpa using h2
    go_enter Tryz.func252, Tryz.ntmps252
    go_wp2_with fail
    go_ret
    exact ⟨rfl, by repeat' (first | assumption | with_reducible exact Below.refl _ _ | with_reducible apply Below.drew | with_reducible apply below_drewN | with_reducible apply below_alloc | with_reducible refine below_set ?_ ?_ _ | (simp only [World.size_alloc, World.heap_drewN]; omega) | (simp; omega))⟩
  · subst h2
    go_enter Tryz.func252, Tryz.ntmps252
    go_wp2_with fail
    go_ret
    exact ⟨rfl, by repeat' (first | assumption | with_reducible exact Below.refl _ _ | with_reducible apply Below.drew | with_reducible apply below_drewN | with_reducible apply below_alloc | with_reducible refine below_set ?_ ?_ _ | (simp only [World.size_alloc, World.heap_drewN]; omega) | (simp; omega))⟩
  · subst h2
    go_enter Tryz.func252, Tryz.ntmps252
    go_wp2_with fail
    go_ret
    exact ⟨rfl, by repeat' (first | assumption | with_reducible exact Below.refl _ _ | with_reducible apply Below.drew | with_reducible apply below_drewN | with_reducible apply below_alloc | with_reducible refine below_set ?_ ?_ _ | (simp only [World.size_alloc, World.heap_drewN]; omega) | (simp; omega))⟩
end Go.Proofs.YtjpbjghdplbdcaaGreatDoor
end
section
namespace Go.Proofs.YtjpbjghdplbdcaaGreatDoor
open Go.RowKit Go.Shelf
def Sby (w : World) (g : Nat) (s : ByteArray) : Prop := g < w.heap.size ∧ ∀ k, k < s.size → w.cell? ⟨g, k, none⟩ = some (.int .u8 ((s.get! k).toNat : Int))
theorem Sby.below {w w' : World} {g : Nat} {s : ByteArray} (h : Sby w g s) (hb : Below w.heap.size w w') : Sby w' g s :=
  ⟨Nat.lt_of_lt_of_le h.1 hb.size, fun k hk => (hb.cell (p := ⟨g, k, none⟩) h.1).trans (h.2 k hk)⟩
end Go.Proofs.YtjpbjghdplbdcaaGreatDoor
end
section
namespace Go.Proofs.YtjpbjghdplbdcaaGreatDoor
open Go.RowKit Go.Shelf
def FitR (l : List Rul) : Prop := ∀ r ∈ l, r.1.size ≤ 9223372036854775807
theorem less_of (a b : ByteArray) : Op.bytesLess a.toList b.toList = ltB a b := by rw [ByteArray.toList_eq, ByteArray.toList_eq]; rfl
theorem step_one {l : List Rul} {k : Nat} {r : Rul} (h : l[k]? = some r) (h1 : oneErr r ≠ 0) : rlStep l k = oneErr r := by unfold rlStep; rw [rAt_of h, if_pos h1]
theorem step_first {l : List Rul} {r : Rul} (h : l[0]? = some r) (h1 : oneErr r = 0) : rlStep l 0 = 0 := by unfold rlStep; rw [rAt_of h, if_neg (by rw [h1]; simp), if_neg (fun h => Nat.lt_irrefl 0 h.1)]
theorem step_next {l : List Rul} {k : Nat} {q r : Rul} (h : l[k]? = some r) (hq : l[k - 1]? = some q) (h0 : 0 < k) (h1 : oneErr r = 0) {b : Bool} (hb : ltB q.1 r.1 = b) : rlStep l k = bif b then 0 else 3 := by
  unfold rlStep
  rw [rAt_of h, rAt_of hq, if_neg (by rw [h1]; simp), hb]
  cases b with
  | true => rw [if_neg (by simp)]; rfl
  | false => rw [if_pos ⟨h0, rfl⟩]; rfl
theorem rlErr_bad {n k : Nat} {l : List Rul} (hn : ¬ 16 < n) (hk : k < n) (h : faultTo (rlStep l) k = 0) {E : Int} (he : rlStep l k = E) (h0 : E ≠ 0) : rlErr n l = E := by unfold rlErr; rw [if_neg hn]; exact faultTo_bad h he h0 n hk
section
variable {A : Option Addr} {n c : Nat} {l : List Rul} {w : World}
set_option maxRecDepth 20000 in
set_option maxHeartbeats 3200000 in
theorem bcheck_any (h : Sr w A n c l) (hf : FitR l) :
    Calls Tryz.prog 248 #[.slice A n c] w fun e w' => e = .returned (.int .i64 (rlErr n l)) ∧ Below w.heap.size w w' := by
  have hm := h.len_max
  have HF := hide hf
  have HL := hide h.rlen
  clear hf
  by_cases h16 : 16 < n
  · rw [show rlErr n l = 2 from if_pos h16]
    go_enter Tryz.func248, Tryz.ntmps248
    go_wp2_with fail
    go_ret
    exact ⟨rfl, Below.refl _ _⟩
  · have H16 := hide h16
    go_enter Tryz.func248, Tryz.ntmps248
    go_wp2_with fail
    go_loopw [11] (fun i wr => ∃ k : Nat, k ≤ n ∧ i = .int .i64 k ∧ Hid (faultTo (rlStep l) k = 0) ∧ Below w.heap.size w wr) (fun i _ => n - (intOf i).toNat)
    case atStart => exact ⟨0, Nat.zero_le _, rfl, hide rfl, Below.refl _ _⟩
    case round =>
      obtain ⟨k, hk, rfl, HK, hb⟩ := hrel
      by_cases hlt : k < n
      · have hsl := h.below hb
        have hlt0 := hlt
        obtain ⟨ad, r, rfl, hbk, hr, hc0, hc1, hc2⟩ := hsl.rcell hlt
        have HR := hide hr
        have hsz := HF.out r (List.mem_of_getElem? hr)
        clear hr
        obtain ⟨p, x, y⟩ := r
        dsimp only at hc0 hc1 hc2 hsz
        obtain ⟨E, hE⟩ : ∃ E, oneErr (p, x, y) = E := ⟨_, rfl⟩
        have CO := hide (fun w => one_any p x y w hsz)
        rw [hE] at CO
        have HE := hide hE
        clear hE
        have hwr : wr.heap.size ≤ (wr.alloc (.cells #[.string p, .int .i64 x, .int .i64 y] 132)).heap.size := by rw [World.size_alloc]; omega
        go_wp2_with fail
        refine (CO.out _).mono ?_
        rintro e w3 ⟨rfl, b3⟩
        have hb3 : Below w.heap.size w w3 := below_on (below_alloc hb _) b3
        have bl := (Blk.new wr 132 #[.string p, .int .i64 x, .int .i64 y]).below b3 (by rw [World.size_alloc]; exact Nat.lt_succ_self _)
        have blt := bl.lt
        have d0 := bl.at_ (i := 0) (u := .string p) rfl
        by_cases hE : E = 0
        · by_cases hk0 : k = 0
          · have HST := hide (faultTo_next HK.out (show rlStep l k = 0 by subst hk0; exact step_first HR.out (HE.out.trans hE)))
            subst hE
            have t0 : decide (0 < (k : Int)) = false := by rw [hk0]; rfl
            have t1 : ¬ 0 < (k : Int) := by omega
            have t4 : ¬ 0 < k := by omega
            have t5 : decide (0 < k) = false := decide_eq_false t4
            clear hk0
            go_wp2_with fail
            go_quiet (fail)
            go_wp2_with fail
            go_roundw
            case rel => exact ⟨k + 1, by omega, by go_num, HST, by repeat' (first | assumption | with_reducible exact Below.refl _ _ | with_reducible apply Below.drew | with_reducible apply below_drewN | with_reducible apply below_alloc | with_reducible refine below_set ?_ ?_ _ | (simp only [World.size_alloc, World.heap_drewN]; omega) | (simp; omega))⟩
            case measure => simp [intOf]; omega
          · obtain ⟨m, hkm⟩ : ∃ m : Nat, k = m + 1 := ⟨k - 1, by omega⟩
            obtain ⟨ad', q, had, hbk', hq, hq0, hq1, hq2⟩ := (h.below hb3).rcell (j := m) (by omega)
            injection had with had
            subst had
            have t0 : decide (0 < (k : Int)) = true := decide_eq_true (by omega)
            have t1 : 0 < (k : Int) := by omega
            have t4 : 0 < k := by omega
            have t5 : decide (0 < k) = true := decide_eq_true t4
            have t2 : IntKind.i64.wrap (m : Int) = (m : Int) := IntWalk.i64_in _ (by omega)
            have t3 : (k : Int) - 1 = (m : Int) := by omega
            have hmn : m < n := by omega
            obtain ⟨B, hB⟩ : ∃ B, ltB q.1 p = B := ⟨_, rfl⟩
            have hlt := less_of q.1 p
            rw [hB] at hlt
            have HST := hide (step_next (l := l) (k := k) HR.out (by rw [hkm]; exact hq) (by omega) (HE.out.trans hE) hB)
            subst hE
            clear hq hk0 hq1 hq2 hB
            obtain ⟨u, v⟩ := q
            dsimp only at hq0 hlt
            clear hkm
            cases B with
            | true =>
              have HN := hide (faultTo_next HK.out HST.out)
              go_wp2_with fail
              go_quiet (fail)
              go_wp2_with fail
              go_roundw
              case rel => exact ⟨k + 1, by omega, by go_num, HN, by repeat' (first | assumption | with_reducible exact Below.refl _ _ | with_reducible apply Below.drew | with_reducible apply below_drewN | with_reducible apply below_alloc | with_reducible refine below_set ?_ ?_ _ | (simp only [World.size_alloc, World.heap_drewN]; omega) | (simp; omega))⟩
              case measure => simp [intOf]; omega
            | false =>
              have HN := hide (rlErr_bad H16.out hlt0 HK.out HST.out (by decide))
              go_wp2_with fail
              go_quiet (fail)
              go_wp2_with fail
              rw [HN.out]
              go_ret
              exact ⟨rfl, by repeat' (first | assumption | with_reducible exact Below.refl _ _ | with_reducible apply Below.drew | with_reducible apply below_drewN | with_reducible apply below_alloc | with_reducible refine below_set ?_ ?_ _ | (simp only [World.size_alloc, World.heap_drewN]; omega) | (simp; omega))⟩
        · have t1 : (E != 0) = true := by simpa using hE
          have HST := hide (rlErr_bad H16.out hlt HK.out ((step_one HR.out (by rw [HE.out]; exact hE)).trans HE.out) hE)
          go_wp2_with fail
          rw [HST.out]
          go_ret
          exact ⟨rfl, hb3⟩
      · obtain rfl : k = n := by omega
        have HT := hide (show rlErr k l = 0 by unfold rlErr; rw [if_neg H16.out]; exact HK.out)
        go_wp2_with fail
        rw [HT.out]
        go_ret
        exact ⟨rfl, hb⟩
end
end Go.Proofs.YtjpbjghdplbdcaaGreatDoor
end
