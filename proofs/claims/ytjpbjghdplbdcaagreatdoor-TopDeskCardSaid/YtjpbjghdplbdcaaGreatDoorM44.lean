/- Proves the parts of the claim that its last text joins: TDeskQ3, TDeskQ4, TDeskQ, Bld, Run1, RunA. Conditions: those that each theorem names. -/
import Derived.Test.YtjpbjghdplbdcaaGreatDoorM43
import Derived.Test.YtjpbjghdplbdcaaGreatDoorM05
import Derived.Shelf.Lay
import Derived.Shelf.LaySoft
import Derived.Shelf.Strings.BuilderK
import Derived.Ground.NamesProg
section
namespace Go.Proofs.YtjpbjghdplbdcaaGreatDoor
set_option maxRecDepth 100000 in
theorem day11 : Day 11 := by
  have h1 : scriptB (inAll 11) = true := by kernel_rfl
  have h2 : (decide ((runP (inAll 11)).length ≤ 65536)) = true := by kernel_rfl
  have h3 : stepsP (runP (inAll 11)) (3 * 11) = some (wantAll 11) := by kernel_rfl
  exact ⟨h1, of_decide_eq_true h2, h3⟩
set_option maxRecDepth 100000 in
theorem day12 : Day 12 := by
  have h1 : scriptB (inAll 12) = true := by kernel_rfl
  have h2 : (decide ((runP (inAll 12)).length ≤ 65536)) = true := by kernel_rfl
  have h3 : stepsP (runP (inAll 12)) (3 * 12) = some (wantAll 12) := by kernel_rfl
  exact ⟨h1, of_decide_eq_true h2, h3⟩
set_option maxRecDepth 100000 in
theorem day13 : Day 13 := by
  have h1 : scriptB (inAll 13) = true := by kernel_rfl
  have h2 : (decide ((runP (inAll 13)).length ≤ 65536)) = true := by kernel_rfl
  have h3 : stepsP (runP (inAll 13)) (3 * 13) = some (wantAll 13) := by kernel_rfl
  exact ⟨h1, of_decide_eq_true h2, h3⟩
set_option maxRecDepth 100000 in
theorem day14 : Day 14 := by
  have h1 : scriptB (inAll 14) = true := by kernel_rfl
  have h2 : (decide ((runP (inAll 14)).length ≤ 65536)) = true := by kernel_rfl
  have h3 : stepsP (runP (inAll 14)) (3 * 14) = some (wantAll 14) := by kernel_rfl
  exact ⟨h1, of_decide_eq_true h2, h3⟩
set_option maxRecDepth 100000 in
theorem day15 : Day 15 := by
  have h1 : scriptB (inAll 15) = true := by kernel_rfl
  have h2 : (decide ((runP (inAll 15)).length ≤ 65536)) = true := by kernel_rfl
  have h3 : stepsP (runP (inAll 15)) (3 * 15) = some (wantAll 15) := by kernel_rfl
  exact ⟨h1, of_decide_eq_true h2, h3⟩
end Go.Proofs.YtjpbjghdplbdcaaGreatDoor
end
section
namespace Go.Proofs.YtjpbjghdplbdcaaGreatDoor
set_option maxRecDepth 100000 in
theorem day16 : Day 16 := by
  have h1 : scriptB (inAll 16) = true := by kernel_rfl
  have h2 : (decide ((runP (inAll 16)).length ≤ 65536)) = true := by kernel_rfl
  have h3 : stepsP (runP (inAll 16)) (3 * 16) = some (wantAll 16) := by kernel_rfl
  exact ⟨h1, of_decide_eq_true h2, h3⟩
set_option maxRecDepth 100000 in
theorem day17 : Day 17 := by
  have h1 : scriptB (inAll 17) = true := by kernel_rfl
  have h2 : (decide ((runP (inAll 17)).length ≤ 65536)) = true := by kernel_rfl
  have h3 : stepsP (runP (inAll 17)) (3 * 17) = some (wantAll 17) := by kernel_rfl
  exact ⟨h1, of_decide_eq_true h2, h3⟩
set_option maxRecDepth 100000 in
theorem day18 : Day 18 := by
  have h1 : scriptB (inAll 18) = true := by kernel_rfl
  have h2 : (decide ((runP (inAll 18)).length ≤ 65536)) = true := by kernel_rfl
  have h3 : stepsP (runP (inAll 18)) (3 * 18) = some (wantAll 18) := by kernel_rfl
  exact ⟨h1, of_decide_eq_true h2, h3⟩
set_option maxRecDepth 100000 in
theorem day19 : Day 19 := by
  have h1 : scriptB (inAll 19) = true := by kernel_rfl
  have h2 : (decide ((runP (inAll 19)).length ≤ 65536)) = true := by kernel_rfl
  have h3 : stepsP (runP (inAll 19)) (3 * 19) = some (wantAll 19) := by kernel_rfl
  exact ⟨h1, of_decide_eq_true h2, h3⟩
set_option maxRecDepth 100000 in
theorem day20 : Day 20 := by
  have h1 : scriptB (inAll 20) = true := by kernel_rfl
  have h2 : (decide ((runP (inAll 20)).length ≤ 65536)) = true := by kernel_rfl
  have h3 : stepsP (runP (inAll 20)) (3 * 20) = some (wantAll 20) := by kernel_rfl
  exact ⟨h1, of_decide_eq_true h2, h3⟩
end Go.Proofs.YtjpbjghdplbdcaaGreatDoor
end
section
namespace Go.Proofs.YtjpbjghdplbdcaaGreatDoor
theorem day_any {n : Nat} (h0 : 1 ≤ n) (h1 : n ≤ 20) : Day n := by
  have : n = 1 ∨ n = 2 ∨ n = 3 ∨ n = 4 ∨ n = 5 ∨ n = 6 ∨ n = 7 ∨ n = 8 ∨ n = 9 ∨ n = 10 ∨ n = 11 ∨ n = 12 ∨ n = 13 ∨ n = 14 ∨ n = 15 ∨ n = 16 ∨ n = 17 ∨ n = 18 ∨ n = 19 ∨ n = 20 := by omega
  rcases this with rfl | rfl | rfl | rfl | rfl | rfl | rfl | rfl | rfl | rfl | rfl | rfl | rfl | rfl | rfl | rfl | rfl | rfl | rfl | rfl
  · exact day1
  · exact day2
  · exact day3
  · exact day4
  · exact day5
  · exact day6
  · exact day7
  · exact day8
  · exact day9
  · exact day10
  · exact day11
  · exact day12
  · exact day13
  · exact day14
  · exact day15
  · exact day16
  · exact day17
  · exact day18
  · exact day19
  · exact day20
end Go.Proofs.YtjpbjghdplbdcaaGreatDoor
end
section
namespace Go.Proofs.YtjpbjghdplbdcaaGreatDoor
open Go.RowKit Go.Shelf
def laysB166_ren : Go.Shelf.Ren := ⟨fun | 166 => 15 | 240 => 29 | 276 => 81 | n => n, fun | 0 => 0 | 3 => 3 | 4 => 4 | 5 => 5 | 9 => 9 | 20 => 20 | 37 => 52 | 70 => 51 | 72 => 54 | 75 => 56 | 164 => 136 | 80 => 60 | n => n, fun | n => n⟩
theorem laysB166 : Go.Proofs.Lays.n166 Tryz.prog laysB166_ren := {
  mixed := by kernel_rfl
  f166 := Tryz.func15.trans (congrArg some (by kernel_rfl))
  f240 := Tryz.func29.trans (congrArg some (by kernel_rfl))
  f276 := Tryz.func81.trans (congrArg some (by kernel_rfl))
  t0 := Tryz.underlying0
  a0 := Tryz.isAgg0
  z0 := Tryz.sizeOf0
  v0 := Tryz.zeroValue0
  t3 := Tryz.underlying3
  a3 := Tryz.isAgg3
  z3 := Tryz.sizeOf3
  v3 := Tryz.zeroValue3
  t4 := Tryz.underlying4
  a4 := Tryz.isAgg4
  z4 := Tryz.sizeOf4
  v4 := Tryz.zeroValue4
  t9 := Tryz.underlying9
  a9 := Tryz.isAgg9
  z9 := Tryz.sizeOf9
  v9 := Tryz.zeroValue9
  t20 := Tryz.underlying20
  a20 := Tryz.isAgg20
  z20 := Tryz.sizeOf20
  v20 := Tryz.zeroValue20
  t37 := Tryz.underlying52
  a37 := Tryz.isAgg52
  z37 := Tryz.sizeOf52
  v37 := Tryz.zeroValue52
  t70 := Tryz.underlying51
  a70 := Tryz.isAgg51
  z70 := Tryz.sizeOf51
  v70 := Tryz.zeroValue51
  t72 := Tryz.underlying54
  a72 := Tryz.isAgg54
  z72 := Tryz.sizeOf54
  v72 := Tryz.zeroValue54
  t75 := Tryz.underlying56
  a75 := Tryz.isAgg56
  z75 := Tryz.sizeOf56
  v75 := Tryz.zeroValue56
  t164 := Tryz.underlying136
  a164 := Tryz.isAgg136
  z164 := Tryz.sizeOf136
  v164 := Tryz.zeroValue136 }
theorem bldExtra166 : Builder.Extra Tryz.prog laysB166_ren where
  sizeBuilder := by kernel_rfl
  liesBuilder := by kernel_rfl
  t5 := Tryz.underlying5
  a5 := Tryz.isAgg5
  z5 := Tryz.sizeOf5
  v5 := Tryz.zeroValue5
  infoByte := by kernel_rfl
  cellsByte := by kernel_rfl
  sizeByte := by kernel_rfl
  neB5 := by decide
def laysB167_ren : Go.Shelf.Ren := ⟨fun | 167 => 17 | 240 => 29 | 276 => 81 | n => n, fun | 0 => 0 | 4 => 4 | 5 => 5 | 9 => 9 | 20 => 20 | 37 => 52 | 70 => 51 | 72 => 54 | 75 => 56 | 164 => 136 | 80 => 60 | n => n, fun | n => n⟩
theorem laysB167 : Go.Proofs.Lays.n167 Tryz.prog laysB167_ren := {
  mixed := by kernel_rfl
  f167 := Tryz.func17.trans (congrArg some (by kernel_rfl))
  f240 := Tryz.func29.trans (congrArg some (by kernel_rfl))
  f276 := Tryz.func81.trans (congrArg some (by kernel_rfl))
  t0 := Tryz.underlying0
  a0 := Tryz.isAgg0
  z0 := Tryz.sizeOf0
  v0 := Tryz.zeroValue0
  t4 := Tryz.underlying4
  a4 := Tryz.isAgg4
  z4 := Tryz.sizeOf4
  v4 := Tryz.zeroValue4
  t5 := Tryz.underlying5
  a5 := Tryz.isAgg5
  z5 := Tryz.sizeOf5
  v5 := Tryz.zeroValue5
  t9 := Tryz.underlying9
  a9 := Tryz.isAgg9
  z9 := Tryz.sizeOf9
  v9 := Tryz.zeroValue9
  t20 := Tryz.underlying20
  a20 := Tryz.isAgg20
  z20 := Tryz.sizeOf20
  v20 := Tryz.zeroValue20
  t37 := Tryz.underlying52
  a37 := Tryz.isAgg52
  z37 := Tryz.sizeOf52
  v37 := Tryz.zeroValue52
  t70 := Tryz.underlying51
  a70 := Tryz.isAgg51
  z70 := Tryz.sizeOf51
  v70 := Tryz.zeroValue51
  t72 := Tryz.underlying54
  a72 := Tryz.isAgg54
  z72 := Tryz.sizeOf54
  v72 := Tryz.zeroValue54
  t75 := Tryz.underlying56
  a75 := Tryz.isAgg56
  z75 := Tryz.sizeOf56
  v75 := Tryz.zeroValue56
  t164 := Tryz.underlying136
  a164 := Tryz.isAgg136
  z164 := Tryz.sizeOf136
  v164 := Tryz.zeroValue136 }
theorem bldExtra167 : Builder.Extra Tryz.prog laysB167_ren where
  sizeBuilder := by kernel_rfl
  liesBuilder := by kernel_rfl
  t5 := Tryz.underlying5
  a5 := Tryz.isAgg5
  z5 := Tryz.sizeOf5
  v5 := Tryz.zeroValue5
  infoByte := by kernel_rfl
  cellsByte := by kernel_rfl
  sizeByte := by kernel_rfl
  neB5 := by decide
def laysB169_ren : Go.Shelf.Ren := ⟨fun | 169 => 18 | n => n, fun | 0 => 0 | 3 => 3 | 5 => 5 | 9 => 9 | 37 => 52 | 70 => 51 | 72 => 54 | 127 => 88 | n => n, fun | n => n⟩
theorem laysB169 : Go.Proofs.Lays.n169 Tryz.prog laysB169_ren := {
  mixed := by kernel_rfl
  f169 := Tryz.func18.trans (congrArg some (by kernel_rfl))
  t0 := Tryz.underlying0
  a0 := Tryz.isAgg0
  z0 := Tryz.sizeOf0
  v0 := Tryz.zeroValue0
  t3 := Tryz.underlying3
  a3 := Tryz.isAgg3
  z3 := Tryz.sizeOf3
  v3 := Tryz.zeroValue3
  t9 := Tryz.underlying9
  a9 := Tryz.isAgg9
  z9 := Tryz.sizeOf9
  v9 := Tryz.zeroValue9
  t37 := Tryz.underlying52
  a37 := Tryz.isAgg52
  z37 := Tryz.sizeOf52
  v37 := Tryz.zeroValue52
  t70 := Tryz.underlying51
  a70 := Tryz.isAgg51
  z70 := Tryz.sizeOf51
  v70 := Tryz.zeroValue51
  t72 := Tryz.underlying54
  a72 := Tryz.isAgg54
  z72 := Tryz.sizeOf54
  v72 := Tryz.zeroValue54
  t127 := Tryz.underlying88
  a127 := Tryz.isAgg88
  z127 := Tryz.sizeOf88
  v127 := Tryz.zeroValue88 }
theorem bldExtra169 : Builder.Extra Tryz.prog laysB169_ren where
  sizeBuilder := by kernel_rfl
  liesBuilder := by kernel_rfl
  t5 := Tryz.underlying5
  a5 := Tryz.isAgg5
  z5 := Tryz.sizeOf5
  v5 := Tryz.zeroValue5
  infoByte := by kernel_rfl
  cellsByte := by kernel_rfl
  sizeByte := by kernel_rfl
  neB5 := by decide
abbrev TB : TypeId := 54
def Bld (w : World) (base o : Nat) (l : List UInt8) : Prop := Lib.IsBuilderF TB 5 base o (Lib.byteCells l) w
theorem bld_str {base o : Nat} {l s : List UInt8} {w : World} (h : Bld w base o l) (hl : l.length + s.length ≤ 140737488355328) (hb : base ≤ w.heap.size) :
    Calls Tryz.prog 15 #[.pointer (some ⟨o, 0, none⟩), .string (tx s)] w fun e w' => e = .returned (.tuple #[.int .i64 s.length, .nilIface]) ∧ Bld w' base o (l ++ s) ∧ Below base w w' ∧ Lib.OthersKept 5 (some o) w w' := by
  refine (Any.Builder_WriteString_k laysB166 bldExtra166 base o _ (tx s) w h (by rw [tx_size]; simpa [Lib.byteCells] using hl) hb).mono ?_
  rintro e w' ⟨rfl, h1, h2, h3⟩
  refine ⟨by rw [tx_size], ?_, h2, h3⟩
  have : Lib.byteCells l ++ Lib.strCells (tx s) = Lib.byteCells (l ++ s) := by simp [Lib.byteCells, Lib.strCells, tx]
  rw [this] at h1
  exact .inr h1
theorem bld_line {base o : Nat} {l : List UInt8} {w : World} (h : Bld w base o l) (hl : l.length + 1 ≤ 140737488355328) (hb : base ≤ w.heap.size) :
    Calls Tryz.prog 17 #[.pointer (some ⟨o, 0, none⟩), .int .u8 10] w fun e w' => e = .returned .nilIface ∧ Bld w' base o (l ++ [10]) ∧ Below base w w' ∧ Lib.OthersKept 5 (some o) w w' := by
  refine (Any.Builder_WriteByte_k laysB167 bldExtra167 base o _ 10 w h (by simpa [Lib.byteCells] using hl) hb).mono ?_
  rintro e w' ⟨rfl, h1, h2, h3⟩
  refine ⟨rfl, ?_, h2, h3⟩
  have : Lib.byteCells l ++ [.int .u8 10] = Lib.byteCells (l ++ [10]) := by simp [Lib.byteCells]
  rw [this] at h1
  exact .inr h1
theorem bld_all {base o : Nat} {l : List UInt8} {w : World} (h : Bld w base o l) (hb : base ≤ w.heap.size) :
    Calls Tryz.prog 18 #[.pointer (some ⟨o, 0, none⟩)] w fun e w' => e = .returned (.string (tx l)) ∧ Below base w w' := by
  refine (Any.Builder_String_any_k laysB169 bldExtra169 base o l w h hb).mono ?_
  rintro e w' ⟨rfl, _, h2, _⟩
  exact ⟨rfl, h2⟩
end Go.Proofs.YtjpbjghdplbdcaaGreatDoor
end
section
namespace Go.Proofs.YtjpbjghdplbdcaaGreatDoor
open Go.RowKit Go.Shelf
theorem desk_new {w : World} {g : Nat} (h : Blk w g DT (deskV 0 (.slice none 0 0) (.slice none 0 0) 0 (.slice none 0 0) (.slice none 0 0))) : DeskAt w g newD :=
  ⟨none, 0, 0, none, 0, 0, none, 0, 0, none, 0, 0, h, ⟨Sl.nil _ _ _, fun b hb => by cases hb⟩, ⟨Sl.nil _ _ _, fun b hb => by cases hb⟩, ⟨Sl.nil _ _ _, fun b hb => by cases hb⟩, ⟨Sl.nil _ _ _, fun b hb => by cases hb⟩⟩
theorem DeskAt.others {cs : Array Value} {w w' : World} {g o : Nat} {s : DSt} (h : DeskAt w g s) (hk : Lib.OthersKept 5 (some o) w w') (hgo : g ≠ o) (hB : Blk w o TB cs) (hz : w.heap.size ≤ w'.heap.size) : DeskAt w' g s := by
  refine h.apart (fun cs e => hk g _ e (fun e => hgo (by injection e)) (fun c fz e => by injection e with _ e; exact absurd e (by decide))) (fun k ob e ho => ?_) hz
  refine hk k ob e (fun e2 => ?_) (fun c fz e2 => ?_)
  · injection e2 with e2
    subst e2
    have e3 := e.symm.trans hB
    injection e3 with e3
    subst e3
    obtain ⟨cs, fz, h | h | h⟩ := ho <;> (injection h with _ h; exact absurd h (by decide))
  · subst e2
    obtain ⟨cs, fz, h | h | h⟩ := ho <;> (injection h with _ h; exact absurd h (by decide))
theorem bld_kept1 {w w' : World} {base g o : Nat} {cs : Array Value} {p : Value} {bs : List Value} (h : Lib.BuilderAtF TB 5 base o p bs w) (hg : w.grownBy w' (some g)) (hD : Blk w g DT cs) (hgo : o ≠ g) : Lib.BuilderAtF TB 5 base o p bs w' := by
  obtain ⟨hB, v, hbk, hown, hne⟩ := h
  refine ⟨hB, v, (hg.block o (Array.getElem?_eq_some_iff.1 hbk).1 (fun e => hgo (by injection e))).trans hbk, hown.kept hg ?_, hne⟩
  rcases hown.2 with ⟨rfl, _⟩ | ⟨gg, cap, cur, fz, rfl, hb, hgg, _⟩
  · exact .inl rfl
  · refine .inr (fun e => ?_)
    have e2 : gg = g := by simpa [Value.ownBlock] using e
    subst e2
    have e3 := hgg.symm.trans hD
    injection e3 with e3
    injection e3 with _ e3
    exact absurd e3 (by decide)
theorem Bld.kept {w w' : World} {base g o : Nat} {cs : Array Value} {l : List UInt8} (h : Bld w base o l) (hg : w.grownBy w' (some g)) (hD : Blk w g DT cs) (hgo : o ≠ g) : Bld w' base o l :=
  h.elim (fun h => .inl (bld_kept1 h hg hD hgo)) (fun h => .inr (bld_kept1 h hg hD hgo))
theorem last_is {ps : List (List UInt8)} {x : List UInt8} (hx : ps[ps.length - 1]? = some x) : ps.getLastD [] = x := by
  rw [List.getLastD_eq_getLast?, List.getLast?_eq_getElem?, hx]
  rfl
theorem linesOf_cut {s : List UInt8} {ps : List (List UInt8)} (h : pieces 10 s = ps) (hx : ps[ps.length - 1]? = some []) : linesOf s = ps.dropLast := by
  unfold linesOf
  rw [h, last_is hx, if_pos rfl]
end Go.Proofs.YtjpbjghdplbdcaaGreatDoor
end
section
namespace Go.Proofs.YtjpbjghdplbdcaaGreatDoor
open Go.RowKit Go.Shelf
theorem bld_new {w : World} {base o : Nat} (h : Blk w o TB #[.pointer none, .slice none 0 0]) (hb : base ≤ o) : Bld w base o [] :=
  .inl ⟨hb, .slice none 0 0, h, World.ownsRowF_nil _ _ _ _, fun e => by cases e⟩
theorem Bld.at_ {w : World} {base o : Nat} {l : List UInt8} (h : Bld w base o l) : ∃ cs, Blk w o TB cs := by
  rcases h with ⟨_, v, h, _⟩ | ⟨_, v, h, _⟩
  · exact ⟨_, h⟩
  · exact ⟨_, h⟩
structure RunAt (w0 : World) (ps : List (List UInt8)) (st : DSt × List UInt8) (wr : World) : Prop where
  desk : DeskAt wr (w0.heap.size + 1) st.1
  ok : DOk st.1
  bld : Bld wr w0.heap.size (w0.heap.size + 2) st.2
  blk : Blk wr w0.heap.size 9 (wds ps).toArray
  below : Below w0.heap.size w0 wr
section
variable {w0 wr w' : World} {ps : List (List UInt8)} {st : DSt × List UInt8}
theorem RunAt.on (h : RunAt w0 ps st wr) (hb : Below wr.heap.size wr w') : RunAt w0 ps st w' := by
  obtain ⟨_, _, _, _, _, _, _, _, _, _, _, _, hD, _⟩ := h.desk
  exact ⟨h.desk.on hb, h.ok, h.bld.kept (gbelow hb _) hD (by omega), h.blk.below hb h.blk.lt, h.below.trans (hb.mono h.below.size)⟩
theorem RunAt.answered {q : DSt × List UInt8} {e : Ending} (h : RunAt w0 ps st wr) (ha : Answered wr (w0.heap.size + 1) q e w') (hq : DOk q.1) : RunAt w0 ps (q.1, st.2) w' := by
  obtain ⟨_, hd, hg⟩ := ha
  have hz := h.desk.lt
  obtain ⟨_, _, _, _, _, _, _, _, _, _, _, _, hD, _⟩ := h.desk
  exact ⟨hd, hq, h.bld.kept hg hD (by omega), h.blk.kept hg (by omega), h.below.trans ((gbel hg (by omega)).mono (by omega))⟩
theorem RunAt.wrote {l : List UInt8} (h : RunAt w0 ps st wr) (hB : Bld w' w0.heap.size (w0.heap.size + 2) l) (hb : Below w0.heap.size wr w') (hk : Lib.OthersKept 5 (some (w0.heap.size + 2)) wr w') : RunAt w0 ps (st.1, l) w' := by
  obtain ⟨cs, hT⟩ := h.bld.at_
  exact ⟨h.desk.others hk (by omega) hT hb.size, h.ok, hB, hk _ _ h.blk (fun e => by injection e with e; omega) (fun c fz e => by injection e with _ e; exact absurd e (by decide)), h.below.trans hb⟩
end
theorem RunAt.start {w w1 : World} {ps : List (List UInt8)} (bP : Blk w1 w.heap.size 9 (wds ps).toArray) (hb : Below w.heap.size w w1) (hz : w1.heap.size = w.heap.size + 1) :
    RunAt w ps (newD, []) ((w1.alloc (.cells #[.int .i64 3, .int .i64 0, .slice none 0 0, .slice none 0 0, .int .i64 3, .int .i64 0, .slice none 0 0, .int .i64 3, .slice none 0 0] DT)).alloc (.cells #[.pointer none, .slice none 0 0] TB)) := by
  have h1 := (Blk.new w1 DT #[.int .i64 3, .int .i64 0, .slice none 0 0, .slice none 0 0, .int .i64 3, .int .i64 0, .slice none 0 0, .int .i64 3, .slice none 0 0]).alloc (.cells #[.pointer none, .slice none 0 0] TB)
  have h2 := Blk.new (w1.alloc (.cells #[.int .i64 3, .int .i64 0, .slice none 0 0, .slice none 0 0, .int .i64 3, .int .i64 0, .slice none 0 0, .int .i64 3, .slice none 0 0] DT)) TB #[.pointer none, .slice none 0 0]
  rw [hz] at h1
  rw [World.size_alloc, hz] at h2
  exact ⟨desk_new h1, newD_ok, bld_new h2 (by omega), (bP.alloc _).alloc _, (hb.alloc (by omega) _).alloc (by rw [World.size_alloc]; omega) _⟩
theorem mark_yes : ((tx [35]).toList == [35]) = true := by
  rw [ByteArray.toList_eq]
  simp [tx]
theorem mark_no {x : List UInt8} (h : x ≠ [35]) : ((tx x).toList == [35]) = false := by
  rw [ByteArray.toList_eq, beq_eq_false_iff_ne]
  intro e
  exact h (by simpa [tx] using e)
theorem lineS_nil {st : DSt × List UInt8} {l : List UInt8} (h : wordsOf l = []) : lineS st l = st := by
  unfold lineS
  rw [h]
theorem lineS_mark {st : DSt × List UInt8} {l : List UInt8} {t : List (List UInt8)} (h : wordsOf l = [35] :: t) : lineS st l = st := by
  unfold lineS
  rw [h]
  exact if_pos rfl
theorem lineS_some {st : DSt × List UInt8} {l x0 : List UInt8} {t : List (List UInt8)} (h : wordsOf l = x0 :: t) (h0 : x0 ≠ [35]) :
    lineS st l = ((ansP st.1 (x0 :: t).length (lineR (x0 :: t))).1, st.2 ++ (ansP st.1 (x0 :: t).length (lineR (x0 :: t))).2 ++ [10]) := by
  unfold lineS
  rw [h]
  exact if_neg h0
theorem fold_next {ls : List (List UInt8)} {i : Nat} {l : List UInt8} (h : ls[i]? = some l) (z : DSt × List UInt8) : (ls.take (i + 1)).foldl lineS z = lineS ((ls.take i).foldl lineS z) l := by
  rw [List.take_add_one, h]
  simp
theorem words_next {qs : List (List UInt8)} {j : Nat} {x : List UInt8} (h : qs[j]? = some x) : (qs.take (j + 1)).filter (fun x => !x.isEmpty) = (qs.take j).filter (fun x => !x.isEmpty) ++ (if x = [] then [] else [x]) := by
  rw [List.take_add_one, h, List.filter_append]
  cases x <;> simp
theorem wds_one (xs : List (List UInt8)) : ∀ u ∈ wds xs, u.oneCell' = true := by
  intro u hu
  obtain ⟨s, _, rfl⟩ := List.mem_map.1 hu
  rfl
theorem wordsOf_short {l : List UInt8} (h : l.length ≤ 65536) : ShortW (wordsOf l) := by
  intro x hx
  have := pieces_size 32 l x (List.mem_filter.1 hx).1
  omega
theorem wordsOf_many {l : List UInt8} (h : l.length ≤ 65536) : (wordsOf l).length ≤ 65537 := by
  have h1 := pieces_many 32 l
  have h2 := List.length_filter_le (fun x : List UInt8 => !x.isEmpty) (pieces 32 l)
  unfold wordsOf
  omega
end Go.Proofs.YtjpbjghdplbdcaaGreatDoor
end
