/-
  slices.Clone, IndexFunc and DeleteFunc at []api.Counter. Conditions: the slice reads as a list of pairs; what the function value answers.
-/
import Derived.Test.YtfopihlbdceepaaGreatProg
import Derived.Test.YtfopihlbdceepaaGreatGen
import Derived.Test.YtfopihlbdceepaaGreatKept
import Derived.Test.YtfopihlbdceepaaGreatPlain
import Derived.Test.YtfopihlbdceepaaGreatOpen3
import Derived.WalkKit
import Derived.WalkSpells
import Derived.Lib.SliceRun
namespace Go.Proofs.YtfopihlbdceepaaGreat
open Go.RowKit

theorem T_ctr : ElemT Tryz.prog 22 40 (.agg #[.int .i64 0, .int .i64 0]) 2 16 := ⟨Tryz.underlying22, by kernel_rfl, rfl, by decide⟩
theorem set2C (xs : List (Int × Int)) {k : Nat} (v : (Int × Int)) (hk : k < xs.length) : ((prs xs).set (k * 2) (.int .i64 v.1)).set (k * 2 + 1) (.int .i64 v.2) = prs (xs.set k v) :=
  flat_set2 (f := fun p : (Int × Int) => [.int .i64 p.1, .int .i64 p.2]) (a := fun p => .int .i64 p.1) (b := fun p => .int .i64 p.2) (fun _ => rfl) xs k v hk
theorem take2C (xs : List (Int × Int)) (k : Nat) : (prs xs).take (k * 2) = prs (xs.take k) := flat_take (f := fun p : (Int × Int) => [.int .i64 p.1, .int .i64 p.2]) (size := 2) (fun _ => rfl) xs k
theorem grown_of_below {w w' : World} (h : Below w.heap.size w w') (row : Option Nat) : w.grownBy w' row := ⟨h.os, h.tape, h.output, h.size, fun k hk _ => h.block k hk⟩

set_option maxHeartbeats 800000 in
theorem cloneC {A : Option Addr} {n c : Nat} {xs : List (Int × Int)} {w : World} (h : Sl w w.heap.size 2 A n c (prs xs)) (hr : n * 16 ≤ 140737488355328) :
    Calls Tryz.prog 14 #[.slice A n c] w fun e w' => ∃ A' c', e = .returned (.slice A' n c') ∧ Own w' w.heap.size 40 2 A' n c' (prs xs) ∧ Below w.heap.size w w' := by
  have hm := h.len_max
  rcases A with _ | ad
  · have hc := h.nul rfl
    subst hc
    have hn : n = 0 := by have := h.cap; omega
    subst hn
    have hx : xs = [] := List.eq_nil_of_length_eq_zero h.plen
    subst hx
    go_enter Tryz.func14, Tryz.ntmps14
    have r := fun w => Lib.run_eql_slice_nil (P := Tryz.prog) w 22 40 none 0 0 0 0 Tryz.underlying22
    go_wp2
    go_ret
    exact ⟨none, 0, rfl, Own.nil _ _ _ _, Below.refl _ _⟩
  · have r := fun w => Lib.run_eql_slice_nil (P := Tryz.prog) w 22 40 (some ad) n c 0 0 Tryz.underlying22
    go_enter Tryz.func14, Tryz.ntmps14
    go_wp2_with (at_builtin; refine wpList_append_sl T_ctr rfl _ _ rfl (by rfl) (by rfl) (Own.new w w.heap.size 40 2 0 #[] (Nat.le_refl _) (Nat.zero_le _) rfl) (h.alloc (Nat.le_refl _) _) (prs_one _) (by simp only [maxLen]; omega) (by omega) (by simp) ?_; intro A' c' w' ap)
    go_ret
    have hb : Below w.heap.size w w' := ((Below.refl _ w).alloc (Nat.le_refl _) _).trans ap.below
    exact ⟨A', c', by simp, by simpa using ap.own, hb⟩

/-- What a function value that captures nothing answers of an element. -/
structure AnswersC (g : FuncId) (p : (Int × Int) → Bool) : Prop where
  enters : ∀ (args : Array Value) (W : World), (callFunc g args).run Tryz.prog W = .ok (.enter g args) W
  does : ∀ (x : (Int × Int)) (W : World), Calls Tryz.prog g #[.agg #[.int .i64 x.1, .int .i64 x.2]] W fun e w' => e = .returned (.bool (p x)) ∧ Below W.heap.size W w'
theorem entersC {f : FuncId} {fn : Func} {c : Code} (hf : Tryz.prog.funcs[f]? = some fn) (hname : (fn.name == "runtime.NumGoroutine") = false) (hb : fn.body = some c) (args : Array Value) (W : World) :
    (callFunc f args).run Tryz.prog W = .ok (.enter f args) W := by
  have h1 : fn.name ≠ "runtime.NumGoroutine" := by simpa using hname
  simp [callFunc, hf, h1, hb, mark]
/-- The first hit, or -1. -/
def HitC (p : (Int × Int) → Bool) (xs : List (Int × Int)) (i : Int) : Prop :=
  (i = -1 ∧ ∀ (m : Nat) (x : (Int × Int)), xs[m]? = some x → p x = false) ∨ ∃ (k : Nat) (x : (Int × Int)), i = (k : Int) ∧ xs[k]? = some x ∧ p x = true ∧ ∀ (m : Nat) (y : (Int × Int)), m < k → xs[m]? = some y → p y = false
set_option maxRecDepth 20000 in
set_option maxHeartbeats 800000 in
theorem indexFuncC {g : FuncId} {p : (Int × Int) → Bool} (hg : AnswersC g p) {A : Option Addr} {n c : Nat} {xs : List (Int × Int)} {w : World} (h : Sl w w.heap.size 2 A n c (prs xs)) :
    Calls Tryz.prog 36 #[.slice A n c, .func (.func g) #[] #[]] w fun e w' => (∃ i, e = .returned (.int .i64 i) ∧ HitC p xs i) ∧ Below w.heap.size w w' := by
  have hm := h.len_max
  have eg := hg.enters
  have HG := hide hg.does
  have HL := hide h.plen
  clear hg
  go_enter Tryz.func36, Tryz.ntmps36
  go_wp2
  go_loopw [8] (fun i wr => ∃ k : Nat, k ≤ n ∧ i = .int .i64 k ∧ (∀ (m : Nat) (y : (Int × Int)), m < k → xs[m]? = some y → p y = false) ∧ Below w.heap.size w wr) (fun i _ => n - (intOf i).toNat)
  case atStart => exact ⟨0, Nat.zero_le _, rfl, (fun m y hm => by omega), Below.refl _ _⟩
  case round =>
    obtain ⟨k, hk, rfl, hno, hwr⟩ := hrel
    have HNO := hide hno
    clear hno
    by_cases hlt : k < n
    · obtain ⟨ad, x, rfl, hb, hx, hc0, hc1⟩ := (h.on hwr).pcell hlt
      have HX := hide hx
      clear hx
      have HC := hide (HG.out x)
      cases hp : p x
      · rw [hp] at HC
        have HPX := hide hp
        clear hp
        go_wp2_with fail
        refine (HC.out _).mono ?_
        rintro e w' ⟨rfl, bel⟩
        go_wp2_with fail
        go_roundw
        case rel => exact ⟨k + 1, by omega, by go_num, fun m y hm hy => by
          by_cases e : m = k
          · subst e
            rw [HX.out] at hy
            injection hy with hy
            subst hy
            exact HPX.out
          · exact HNO.out m y (by omega) hy, below_on hwr bel⟩
        case measure => simp [intOf]; omega
      · rw [hp] at HC
        have HPX := hide hp
        clear hp
        go_wp2_with fail
        refine (HC.out _).mono ?_
        rintro e w' ⟨rfl, bel⟩
        go_wp2_with fail
        go_ret
        exact ⟨⟨k, rfl, .inr ⟨k, x, rfl, HX.out, HPX.out, HNO.out⟩⟩, below_on hwr bel⟩
    · obtain rfl : k = n := by omega
      go_wp2_with fail
      go_ret
      exact ⟨⟨-1, rfl, .inl ⟨rfl, fun m x hx => HNO.out m x (by have := (List.getElem?_eq_some_iff.1 hx).1; rw [HL.out] at this; exact this) hx⟩⟩, hwr⟩

set_option maxRecDepth 20000 in
set_option maxHeartbeats 1600000 in
theorem deleteFuncC {g : FuncId} {p : (Int × Int) → Bool} (hg : AnswersC g p) {base : Nat} {A : Option Addr} {n c : Nat} {xs : List (Int × Int)} {w : World} (h : Own w base 40 2 A n c (prs xs)) :
    Calls Tryz.prog 24 #[.slice A n c, .func (.func g) #[] #[]] w fun e w' => ∃ m, m = (xs.filter fun x => !p x).length ∧ e = .returned (.slice A m c) ∧ Own w' base 40 2 A m c (prs (xs.filter fun x => !p x)) ∧ w.grownBy w' (blockOf A) := by
  have hm := h.sl.len_max
  have hcap := h.cap.1
  have hl : xs.length = n := h.sl.plen
  have eg := hg.enters
  have HG := hide hg.does
  have HI := hide (indexFuncC hg h.sl)
  clear hg
  go_enter Tryz.func24, Tryz.ntmps24
  go_wp2_with fail
  refine HI.out.mono ?_
  rintro e w1 ⟨⟨i, rfl, hit⟩, bel1⟩
  have h1 := h.below bel1 (Nat.le_refl _)
  have g1 : w.grownBy w1 (blockOf A) := grown_of_below bel1 _
  rcases hit with ⟨rfl, hno⟩ | ⟨k, x, rfl, hx, hpx, hlow⟩
  · have e1 := filter_none hno
    have HF := hide e1
    have HL := hide hl
    clear hno e1 hl
    go_wp2_with fail
    rw [HF.out]
    go_ret
    exact ⟨n, HL.out.symm, rfl, h1, g1⟩
  · have hkn : k < n := by rw [← hl]; exact (List.getElem?_eq_some_iff.1 hx).1
    obtain ⟨gb, rfl, hb0, hb1⟩ := h1.addr (by omega)
    have HK0 := hide (KeptOk.start hx hpx hlow)
    have HL := hide hl
    have hlt1 := h.blk (g := gb) rfl
    clear hx hpx hlow hl HI h bel1 hb1
    have t9 : ¬ (k : Int) = -1 := by omega
    have t10 : ((k : Int) == -1) = false := beq_false_of_ne t9
    go_wp2_with fail
    go_loopw [5, 6] (fun s5 s6 wr => ∃ (i j : Nat) (ys : List (Int × Int)), s5 = .int .i64 i ∧ s6 = .int .i64 j ∧ i < j ∧ j ≤ n ∧ Hid (KeptOk p xs ys i j) ∧ Own wr base 40 2 (some ⟨gb, 0, none⟩) n c (prs ys) ∧ w.grownBy wr (some gb)) (fun _ s6 _ => n - (intOf s6).toNat)
    case atStart => exact ⟨k, k + 1, xs, rfl, by go_num, by omega, by omega, HK0, h1, g1⟩
    case round =>
      clear h1 g1 HK0 hkn
      obtain ⟨i, j, ys, rfl, rfl, hij, hjn, K, o1, g1⟩ := hrel
      have hyl : ys.length = n := K.out.len.trans HL.out
      by_cases hlt : j < n
      · have hxj : xs[j]? = some (xs[j]'(by rw [HL.out]; exact hlt)) := List.getElem?_eq_getElem _
        obtain ⟨v, hv⟩ : ∃ v, xs[j]'(by rw [HL.out]; exact hlt) = v := ⟨_, rfl⟩
        rw [hv] at hxj
        clear hv
        have hyj := K.out.at_ hxj
        obtain ⟨ad, x', had, _, hx', hc0, hc1⟩ := o1.sl.pcell hlt
        rw [hyj] at hx'
        injection hx' with hx'
        subst hx'
        injection had with had
        subst had
        rw [add_lit0] at hc0 hc1
        have HX := hide hxj
        clear hxj hyj
        have HC := hide (HG.out v)
        obtain ⟨gv, hgv⟩ : ∃ gv, wr.heap.size = gv := ⟨_, rfl⟩
        have o2 := o1.alloc (.cells #[.int .i64 v.1, .int .i64 v.2] 40)
        have g2 := g1.trans (World.grownBy_alloc wr (.cells #[.int .i64 v.1, .int .i64 v.2] 40) (some gb))
        have bv := Blk.new wr 40 #[.int .i64 v.1, .int .i64 v.2]
        rw [hgv] at bv
        have hgg : gb < gv := by rw [← hgv]; exact (o1.blk (g := gb) rfl).2
        cases hp : p v
        · rw [hp] at HC
          have HP := hide hp
          clear hp
          go_wp2_with fail
          refine (HC.out _).mono ?_
          rintro e w3 ⟨rfl, bel3⟩
          have o3 := o2.below bel3 (Nat.le_refl _)
          have g3 := g2.trans (grown_of_below bel3 (some gb))
          have bv3 := bv.below bel3 bv.lt
          have v0 := bv3.at_ (i := 0) (u := .int .i64 v.1) rfl
          have v1 := bv3.at_ (i := 1) (u := .int .i64 v.2) rfl
          obtain ⟨ad2, y, had2, _, hy, hd0, hd1⟩ := o3.sl.pcell (show i < n by omega)
          injection had2 with had2
          subst had2
          rw [add_lit0] at hd0 hd1
          have f0 := o3.free (i * 2)
          have f1 := o3.free (i * 2 + 1)
          clear hy o1 g1 o2 g2 bv bel3
          go_wp2_with fail
          have o4 := (o3.set (i * 2) (.int .i64 v.1)).set (i * 2 + 1) (.int .i64 v.2)
          rw [set2C ys v (by omega)] at o4
          go_roundw
          case rel => exact ⟨i + 1, j + 1, ys.set i v, by go_num, by go_num, by omega, by omega, hide (K.out.keep hij HX.out HP.out), o4, (g3.trans (grown_set _ _ _ _)).trans (grown_set _ _ _ _)⟩
          case measure => simp [intOf]; omega
        · rw [hp] at HC
          have HP := hide hp
          clear hp
          go_wp2_with fail
          refine (HC.out _).mono ?_
          rintro e w3 ⟨rfl, bel3⟩
          have o3 := o2.below bel3 (Nat.le_refl _)
          have g3 := g2.trans (grown_of_below bel3 (some gb))
          clear o1 g1 o2 g2 bv
          go_wp2_with fail
          go_roundw
          case rel => exact ⟨i, j + 1, ys, rfl, by go_num, by omega, by omega, hide (K.out.skip HX.out HP.out), o3, g3⟩
          case measure => simp [intOf]; omega
      · obtain rfl : j = n := by omega
        obtain ⟨w', hcl, o4, g4⟩ := run_clear_own T_ctr (P := Tryz.prog) Tryz.zeroValue40 (by intro u hu; simp [Value.cells] at hu; rcases hu with rfl | rfl <;> rfl) o1 (i := i) (m := j - i) (by omega) (by omega)
        have HD := hide (KeptOk.done (by rw [HL.out]; exact K.out))
        go_wp2_with fail
        go_ret
        rw [take2C, HD.out] at o4
        have hlen := o4.sl.plen
        rw [hlen]
        exact ⟨i, rfl, rfl, o4, g1.trans g4⟩
end Go.Proofs.YtfopihlbdceepaaGreat
