/- Proves the parts of the claim that its last text joins: Write. Conditions: those that each theorem names. -/
import Derived.Test.YtjpbjghdplbdcaaGreatDoorM18
import Derived.Test.YtjpbjghdplbdcaaGreatDoorM04
import Derived.Lib.Join
import Derived.Shelf.Strings.OnBuilder
import Derived.Ground.NamesProg
section
namespace Go.Proofs.YtjpbjghdplbdcaaGreatDoor
open Go.RowKit Go.Shelf
def laysJoin_ren : Go.Shelf.Ren := ⟨fun | 156 => 178 | 165 => 235 | 166 => 15 | 169 => 18 | 240 => 29 | 241 => 296 | 276 => 81 | 277 => 336 | n => n, fun | 31 => 28 | 9 => 9 | 3 => 3 | 4 => 4 | 0 => 0 | 20 => 20 | 72 => 54 | 76 => 57 | 70 => 51 | 37 => 52 | 75 => 56 | 127 => 88 | 164 => 136 | 5 => 5 | 80 => 60 | n => n, fun | n => n⟩
theorem laysJoin : Go.Proofs.Lays.n156 Tryz.prog laysJoin_ren := {
  mixed := by kernel_rfl
  f156 := Tryz.func178.trans (congrArg some (by kernel_rfl))
  f165 := Tryz.func235.trans (congrArg some (by kernel_rfl))
  f166 := Tryz.func15.trans (congrArg some (by kernel_rfl))
  f169 := Tryz.func18.trans (congrArg some (by kernel_rfl))
  f240 := Tryz.func29.trans (congrArg some (by kernel_rfl))
  f241 := Tryz.func296.trans (congrArg some (by kernel_rfl))
  f276 := Tryz.func81.trans (congrArg some (by kernel_rfl))
  f277 := Tryz.func336.trans (congrArg some (by kernel_rfl))
  t0 := Tryz.underlying0
  a0 := Tryz.isAgg0
  z0 := Tryz.sizeOf0
  v0 := Tryz.zeroValue0
  t3 := Tryz.underlying3
  a3 := Tryz.isAgg3
  z3 := Tryz.sizeOf3
  v3 := Tryz.zeroValue3
  t4 := Tryz.underlying4
  a4 := Tryz.isAgg4
  z4 := Tryz.sizeOf4
  v4 := Tryz.zeroValue4
  t9 := Tryz.underlying9
  a9 := Tryz.isAgg9
  z9 := Tryz.sizeOf9
  v9 := Tryz.zeroValue9
  t20 := Tryz.underlying20
  a20 := Tryz.isAgg20
  z20 := Tryz.sizeOf20
  v20 := Tryz.zeroValue20
  t31 := Tryz.underlying28
  a31 := Tryz.isAgg28
  z31 := Tryz.sizeOf28
  v31 := Tryz.zeroValue28
  t37 := Tryz.underlying52
  a37 := Tryz.isAgg52
  z37 := Tryz.sizeOf52
  v37 := Tryz.zeroValue52
  t70 := Tryz.underlying51
  a70 := Tryz.isAgg51
  z70 := Tryz.sizeOf51
  v70 := Tryz.zeroValue51
  t72 := Tryz.underlying54
  a72 := Tryz.isAgg54
  z72 := Tryz.sizeOf54
  v72 := Tryz.zeroValue54
  t75 := Tryz.underlying56
  a75 := Tryz.isAgg56
  z75 := Tryz.sizeOf56
  v75 := Tryz.zeroValue56
  t76 := Tryz.underlying57
  a76 := Tryz.isAgg57
  z76 := Tryz.sizeOf57
  v76 := Tryz.zeroValue57
  t127 := Tryz.underlying88
  a127 := Tryz.isAgg88
  z127 := Tryz.sizeOf88
  v127 := Tryz.zeroValue88
  t164 := Tryz.underlying136
  a164 := Tryz.isAgg136
  z164 := Tryz.sizeOf136
  v164 := Tryz.zeroValue136 }
theorem joinExtra : Builder.Extra Tryz.prog laysJoin_ren where
  sizeBuilder := by kernel_rfl
  liesBuilder := by kernel_rfl
  t5 := Tryz.underlying5
  a5 := run_isAgg_plain Tryz.underlying5 rfl
  z5 := fun w => by kernel_rfl
  v5 := fun w => Tryz.zeroValue5 w
  infoByte := by kernel_rfl
  cellsByte := by kernel_rfl
  sizeByte := by kernel_rfl
  neB5 := by decide
theorem T_str : ElemT Tryz.prog 28 9 (.string ⟨#[]⟩) 1 16 := ⟨Tryz.underlying28, by kernel_rfl, rfl, by decide⟩
def strs (l : List ByteArray) : List Value := l.map Value.string
theorem strs_one (l : List ByteArray) : ∀ u ∈ strs l, u.oneCell' = true := by
  intro u hu
  obtain ⟨s, _, rfl⟩ := List.mem_map.1 hu
  rfl
theorem strs_append (a b : List ByteArray) : strs (a ++ b) = strs a ++ strs b := by simp [strs]
def wordOf (p : Pr) : ByteArray := p.1 ++ ⟨#[61]⟩ ++ p.2
theorem wordOf_data (p : Pr) : (wordOf p).data.toList = prText p := by simp [wordOf, prText, bl, ByteArray.data_append]
def wordsTo (ps : List Pr) (k : Nat) : List ByteArray := (ps.take k).map wordOf
theorem wordsTo_next {ps : List Pr} {k : Nat} {p : Pr} (h : ps[k]? = some p) : wordsTo ps (k + 1) = wordsTo ps k ++ [wordOf p] := by
  unfold wordsTo
  rw [List.take_add_one, h]
  simp
theorem wordsTo_len {ps : List Pr} {k : Nat} (h : k ≤ ps.length) : (wordsTo ps k).length = k := by simp [wordsTo]; omega
theorem joinTail_snoc (sep y : List UInt8) (r : List (List UInt8)) : Lib.joinTail sep (r ++ [y]) = Lib.joinTail sep r ++ (sep ++ y) := by simp [Lib.joinTail]
theorem join_snoc (sep y : List UInt8) : ∀ l : List (List UInt8), Lib.join (l ++ [y]) sep = Lib.join l sep ++ (if l = [] then [] else sep) ++ y
  | [] => by simp [Lib.join_nil, Lib.join_one]
  | x :: r => by rw [List.cons_append, Lib.join_cons, Lib.join_cons, joinTail_snoc, if_neg (by simp)]; simp
theorem join_words {ps : List Pr} : ∀ k, k ≤ ps.length → Lib.join ((wordsTo ps k).map (·.data.toList)) [44] = txTo ps k
  | 0, _ => by simp [wordsTo, Lib.join_nil, txTo]
  | k + 1, hk => by
    have hp : ps[k]? = some (ps[k]'(by omega)) := List.getElem?_eq_getElem (by omega)
    rw [wordsTo_next hp, List.map_append, List.map_singleton, join_snoc, join_words k (by omega), txTo_next hp, wordOf_data]
    congr 2
    have hl := wordsTo_len (ps := ps) (k := k) (by omega)
    by_cases k0 : k = 0
    · rw [if_pos k0, if_pos (by rw [k0] at hl; rw [k0]; simp [List.eq_nil_of_length_eq_zero hl])]
    · rw [if_neg k0, if_neg (by intro e; rw [List.map_eq_nil_iff] at e; rw [e] at hl; simp at hl; omega)]
section
variable {A : Option Addr} {n c : Nat} {ps : List Pr} {w : World}
set_option maxRecDepth 20000 in
set_option maxHeartbeats 1600000 in
theorem write_bad (h : Sp2 w A n c ps) (hf : Fit ps) {E : Int} (hE : prErr n ps = E) (h0 : ¬ E = 0) :
    Calls Tryz.prog 111 #[.slice A n c] w fun e w' => e = .returned (.tuple #[.string ⟨#[]⟩, .int .i64 E]) ∧ Below w.heap.size w w' := by
  have t1 : (E != 0) = true := by simpa using h0
  have HC := hide (scheck_any h hf)
  rw [hE] at HC
  clear hE h0
  go_enter Tryz.func111, Tryz.ntmps111
  go_wp2_with fail
  refine HC.out.mono ?_
  rintro e w1 ⟨rfl, bel⟩
  go_wp2_with fail
  go_ret2
  exact ⟨rfl, bel⟩
def wrE (L : List UInt8) : Int := if 200 < L.length then 2 else 0
def wrT (L : List UInt8) : List UInt8 := if 200 < L.length then [] else L
set_option maxRecDepth 20000 in
set_option maxHeartbeats 3200000 in
theorem write_ok (h : Sp2 w A n c ps) (hf : Fit ps) (hE : prErr n ps = 0) (hz : (txTo ps n).length ≤ 140737488351232) :
    Calls Tryz.prog 111 #[.slice A n c] w fun e w' => e = .returned (.tuple #[.string (tx (wrT (txTo ps n))), .int .i64 (wrE (txTo ps n))]) ∧ Below w.heap.size w w' := by
  have hlen := h.slen
  have n40 : n ≤ 40 := (prErr_ok hlen hE).1
  have HC := hide (scheck_any h hf)
  rw [hE] at HC
  have HZ := hide hz
  have HL := hide hlen
  clear hE hz hlen
  go_enter Tryz.func111, Tryz.ntmps111
  go_wp2_with fail
  refine HC.out.mono ?_
  rintro e w1 ⟨rfl, bel⟩
  have h1 := h.on bel
  go_wp2_with fail
  go_loopw [5, 16] (fun v i wr => ∃ (k : Nat) (A' : Option Addr) (c' : Nat), k ≤ n ∧ i = .int .i64 k ∧ v = .slice A' k c' ∧ Own wr w1.heap.size 9 1 A' k c' (strs (wordsTo ps k)) ∧ Below w1.heap.size w1 wr) (fun _ i _ => n - (intOf i).toNat)
  case atStart => exact ⟨0, none, 0, by omega, rfl, rfl, Own.nil _ _ _ _, Below.refl _ _⟩
  case round =>
    obtain ⟨k, A', c', hk, rfl, rfl, own, hb⟩ := hrel
    have hzr : w1.heap.size ≤ wr.heap.size := hb.size
    by_cases hlt : k < n
    · obtain ⟨ad, p, rfl, hbk, hp, hc0, hc1⟩ := (h1.below hb).scell hlt
      have hba : Below w1.heap.size w1 (wr.alloc (.cells #[.string p.1, .string p.2] 171)) := hb.alloc (by omega) _
      have bp := Blk.new wr 171 #[.string p.1, .string p.2]
      have q0 := bp.at_ (i := 0) (u := .string p.1) rfl
      have q1 := bp.at_ (i := 1) (u := .string p.2) rfl
      have hs := text_size hp
      have hs2 := Nat.le_trans (txTo_len (ps := ps) (show k + 1 ≤ n by omega)) HZ.out
      obtain ⟨U1, hU1⟩ : ∃ U1, p.1 ++ (⟨#[61]⟩ : ByteArray) = U1 := ⟨_, rfl⟩
      have sU1 : U1.size = p.1.size + 1 := by rw [← hU1, ByteArray.size_append]; rfl
      have hW : U1 ++ p.2 = wordOf p := by rw [← hU1]; rfl
      obtain ⟨W, hWe⟩ : ∃ W, wordOf p = W := ⟨_, rfl⟩
      rw [hWe] at hW
      have HWD := hide (wordsTo_next hp)
      rw [hWe] at HWD
      generalize (txTo ps k).length = tl at hs
      clear hp hWe
      go_wp2_with (at_builtin; refine wpList_append_sl T_str rfl _ _ rfl (by rfl) (by rfl) ((own.alloc _).alloc _) (Sl.blk 1 1 (cs := strs [W]) (e := 9) (at_new3 _ _ _) rfl (by simp [maxLen])) (strs_one [W]) (by simp only [maxLen]; omega) (by omega) (by simp <;> omega) ?_; intro A3 c3 w3 ap)
      have own3 := ap.own
      rw [← strs_append, ← HWD.out] at own3
      have b3 : Below w1.heap.size w1 w3 := (hba.alloc (by simp <;> omega) _).trans ap.below
      clear ap own
      go_wp2_with fail
      exact ⟨⟨k + 1, A3, c3, by omega, by go_num, rfl, own3, b3⟩, by simp [intOf]; omega⟩
    · obtain rfl : k = n := by omega
      have hkw := below_on bel hb
      have HJW := hide (join_words (ps := ps) k (by rw [HL.out]; exact Nat.le_refl _))
      have hwl := wordsTo_len (ps := ps) (k := k) (by rw [HL.out]; exact Nat.le_refl _)
      have HJ : Hid (Calls Tryz.prog 178 #[.slice A' k c', .string ⟨#[44]⟩] wr fun e w' => e = .returned (.string (tx (txTo ps k))) ∧ Below wr.heap.size wr w') := by
        rcases Nat.eq_zero_or_pos k with h0 | h0
        · subst h0
          refine (Any.strings_Join_none laysJoin joinExtra A' c' ⟨#[44]⟩ wr).mono ?_
          rintro e w' ⟨rfl, rfl⟩
          exact ⟨rfl, Below.refl _ _⟩
        · obtain ⟨g, rfl, _, hgl⟩ := own.addr h0
          have hcap := own.cap.1
          have k := Any.strings_Join laysJoin joinExtra g 0 c' (wordsTo ps k) ⟨#[44]⟩ wr (fun j x hx => by rw [Nat.zero_add]; exact own.cell (by simp [strs, hx])) hgl (by rw [hwl]; omega) (by rw [hwl]; exact hcap) (by
            rw [show (⟨#[44]⟩ : ByteArray).data.toList = [44] from rfl, HJW.out]; have := HZ.out; omega)
          rw [show (⟨#[44]⟩ : ByteArray).data.toList = [44] from rfl, HJW.out, hwl] at k
          exact k
      obtain ⟨L, hL⟩ : ∃ L, txTo ps k = L := ⟨_, rfl⟩
      rw [hL] at HJ
      have HL2 := hide hL
      have sL := tx_size L
      clear own hL hwl
      by_cases h2 : 200 < L.length
      · have H1 := hide (show wrT L = [] from if_pos h2)
        have H2 := hide (show wrE L = 2 from if_pos h2)
        obtain ⟨T, hT⟩ : ∃ T, tx L = T := ⟨_, rfl⟩
        rw [hT] at HJ sL
        go_wp2_with fail
        refine HJ.out.mono ?_
        rintro e w4 ⟨rfl, bel4⟩
        go_wp2_with fail
        rw [HL2.out, H1.out, H2.out]
        go_ret2
        exact ⟨rfl, below_on hkw bel4⟩
      · have H1 := hide (show wrT L = L from if_neg h2)
        have H2 := hide (show wrE L = 0 from if_neg h2)
        obtain ⟨T, hT⟩ : ∃ T, tx L = T := ⟨_, rfl⟩
        rw [hT] at HJ sL
        have HT := hide hT
        clear hT
        go_wp2_with fail
        refine HJ.out.mono ?_
        rintro e w4 ⟨rfl, bel4⟩
        go_wp2_with fail
        rw [HL2.out, H1.out, H2.out, HT.out]
        go_ret2
        exact ⟨rfl, below_on hkw bel4⟩
end
end Go.Proofs.YtjpbjghdplbdcaaGreatDoor
end
