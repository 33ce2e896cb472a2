/-
  culref.Rule, board.one, the two 'newer': the walks. Condition: the length of the text.
-/
import Derived.Test.YtfopihlbdceepaaBoardP
import Derived.Test.YtfopihlbdceepaaRule
import Derived.Test.YtfopihlbdceepaaWithin
import Derived.Test.YtfopihlbdceepaaGen
import Derived.Test.YtfopihlbdceepaaPlain
import Derived.Test.YtfopihlbdceepaaEqP
import Derived.Laws.IdiomStrings
import Derived.Deep.QuietTactic
import Derived.BigQuiet
import Derived.Shelf.GgClosure.StringsIndexFuncTop
import Derived.Ground.GgwProg
namespace Go.Proofs.Ytfopihlbdceepaa
open Go.RowKit Go.Shelf

def laysCF_ren : Go.Shelf.Ren := ⟨fun | 17 => 46 | 15 => 67 | 20 => 100 | n => n, fun | 9 => 9 | 23 => 82 | 4 => 4 | 3 => 3 | 0 => 0 | 21 => 21 | n => n, fun | n => n⟩
theorem laysCF : Go.Proofs.LaysGw.n17 Try.prog laysCF_ren := {
  mixed := by kernel_rfl
  f15 := Try.func67.trans (congrArg some (by kernel_rfl))
  f17 := Try.func46.trans (congrArg some (by kernel_rfl))
  f20 := Try.func100.trans (congrArg some (by kernel_rfl))
  t0 := Try.underlying0
  a0 := Try.isAgg0
  z0 := Try.sizeOf0
  v0 := Try.zeroValue0
  i0 := by kernel_rfl
  t3 := Try.underlying3
  a3 := Try.isAgg3
  z3 := Try.sizeOf3
  v3 := Try.zeroValue3
  i3 := by kernel_rfl
  t4 := Try.underlying4
  a4 := Try.isAgg4
  z4 := Try.sizeOf4
  v4 := Try.zeroValue4
  i4 := by kernel_rfl
  t9 := Try.underlying9
  a9 := Try.isAgg9
  z9 := Try.sizeOf9
  v9 := Try.zeroValue9
  i9 := by kernel_rfl
  t21 := Try.underlying21
  a21 := Try.isAgg21
  z21 := Try.sizeOf21
  v21 := Try.zeroValue21
  i21 := by kernel_rfl
  t23 := Try.underlying82
  a23 := Try.isAgg82
  z23 := Try.sizeOf82
  v23 := Try.zeroValue82
  i23 := by kernel_rfl }
theorem enters_fn {f : FuncId} {fn : Func} {c : Code} (hf : Try.prog.funcs[f]? = some fn) (hname : (fn.name == "runtime.NumGoroutine") = false) (hb : fn.body = some c) (args : Array Value) (W : World) :
    (callFunc f args).run Try.prog W = .ok (.enter f args) W := by
  have h1 : fn.name ≠ "runtime.NumGoroutine" := by simpa using hname
  simp [callFunc, hf, h1, hb, mark]
/-- The runes that may not be. -/
def badRune (x : Nat) : Bool := decide (x < 33 ∨ 126 < x)
theorem decode_low {s : ByteArray} {i : Nat} (h : (s.get! i).toNat < 128) : Utf8.decode s i = ((s.get! i).toNat, 1) := by
  unfold Utf8.decode
  simp only [Nat.add_zero]
  rw [if_pos h]
theorem decode_high {s : ByteArray} {i : Nat} (h : ¬ (s.get! i).toNat < 128) : 126 < (Utf8.decode s i).1 := by
  unfold Utf8.decode
  simp only [Nat.add_zero]
  rw [if_neg h]
  have hr : 126 < Utf8.runeError := by decide
  split
  · split
    · rename_i hc; simp only [ge_iff_le] at hc; dsimp only; omega
    · exact hr
  · split
    · split
      · rename_i hc; simp only [ge_iff_le, Bool.and_eq_true, decide_eq_true_eq] at hc; dsimp only; omega
      · exact hr
    · split
      · split
        · rename_i hc; simp only [ge_iff_le, Bool.and_eq_true, decide_eq_true_eq] at hc; dsimp only; omega
        · exact hr
      · exact hr
theorem get_by8 {s : ByteArray} {i : Nat} (h : i < s.size) : (by8 s)[i]? = some (s.get! i) := by
  have h' : i < s.data.size := h
  show s.data.toList[i]? = _
  rw [Array.getElem?_toList, Array.getElem?_eq_getElem h']
  congr 1
  exact (getElem!_pos s.data i h').symm
theorem idx_bad {s : ByteArray} : ∀ (f pos : Nat), s.size ≤ pos + f → decide (0 ≤ Lib.idxFuncFrom badRune true s f pos) = ((by8 s).drop pos).any badByte
  | 0, pos, h => by
    rw [List.drop_of_length_le (by show s.data.toList.length ≤ pos; rw [Array.length_toList]; exact h)]
    rfl
  | f + 1, pos, h => by
    unfold Lib.idxFuncFrom
    by_cases hp : pos < s.size
    · rw [if_pos hp]
      have hg := get_by8 hp
      have hl : pos < (by8 s).length := (List.getElem?_eq_some_iff.1 hg).1
      have hd : (by8 s).drop pos = s.get! pos :: (by8 s).drop (pos + 1) := by
        rw [List.drop_eq_getElem_cons hl]
        congr 1
        have := List.getElem?_eq_getElem hl
        rw [hg] at this
        injection this with this
        exact this.symm
      rw [hd, List.any_cons]
      by_cases h8 : (s.get! pos).toNat < 128
      · rw [decode_low h8]
        dsimp only
        cases hb : badByte (s.get! pos) with
        | true =>
          have : badRune (s.get! pos).toNat = true := by
            have := of_decide_eq_true hb
            exact decide_eq_true this
          rw [if_pos this]
          simp
        | false =>
          have : ¬ badRune (s.get! pos).toNat = true := by
            have := of_decide_eq_false hb
            intro hc
            exact this (of_decide_eq_true hc)
          rw [if_neg this, idx_bad f (pos + 1) (by omega)]
          rfl
      · have := decode_high h8
        have hr : badRune (Utf8.decode s pos).1 = true := decide_eq_true (.inr this)
        have hb : badByte (s.get! pos) = true := decide_eq_true (.inr (by omega))
        rw [if_pos hr, hb]
        simp
    · rw [if_neg hp, List.drop_of_length_le (by show s.data.toList.length ≤ pos; rw [Array.length_toList]; show s.size ≤ pos; omega)]
      rfl
theorem idx_is (s : ByteArray) : decide (0 ≤ Lib.idxFunc badRune true s) = (by8 s).any badByte := idx_bad s.size 0 (by omega)
theorem bad1 (x : Nat) (w : World) : Calls Try.prog 47 #[.int .i32 x] w fun e w' => e = .returned (.bool (badRune x)) ∧ w = w' := by
  by_cases h1 : x < 33
  · have HB := hide (show badRune x = true from decide_eq_true (.inl h1))
    have h2 : (x : Int) < 33 := by omega
    go_enter Try.func47, Try.ntmps47
    go_wp2_with fail
    rw [HB.out]
    go_ret
    exact ⟨rfl, rfl⟩
  · by_cases h3 : 126 < x
    · have HB := hide (show badRune x = true from decide_eq_true (.inr h3))
      have h2 : ¬ (x : Int) < 33 := by omega
      have h4 : 126 < (x : Int) := by omega
      go_enter Try.func47, Try.ntmps47
      go_wp2_with fail
      rw [HB.out]
      go_ret
      exact ⟨rfl, rfl⟩
    · have HB := hide (show badRune x = false from decide_eq_false (by omega))
      have h2 : ¬ (x : Int) < 33 := by omega
      have h4 : ¬ 126 < (x : Int) := by omega
      go_enter Try.func47, Try.ntmps47
      go_wp2_with fail
      rw [HB.out]
      go_ret
      exact ⟨rfl, rfl⟩
theorem cf_any (s : ByteArray) {b : Bool} (hb : (by8 s).any badByte = b) (w : World) : Calls Try.prog 46 #[.string s, .func (.func 47) #[] #[]] w fun e w' => e = .returned (.bool b) ∧ Below w.heap.size w w' := by
  have k := Any.strings_ContainsFunc { laysCF with } 47 #[] (enters_fn Try.func47 rfl rfl) badRune s w
    (fun W x _ => (bad1 x W).mono fun e w' ⟨h1, h2⟩ => ⟨h1, 0, h2.symm⟩)
  rw [idx_is, hb] at k
  exact k
end Go.Proofs.Ytfopihlbdceepaa
