/-
  culref.Least: a set of numbers ranged over, sorted, cut: the walk. Conditions: the slice reads as a list of numbers of Go's; it is short.
-/
import Derived.Test.YtkliebhpdcjdgaaSeen
import Derived.Test.YtkliebhpdcjdgaaBot
import Derived.Test.YtkliebhpdcjdgaaProg
import Derived.Carry
import Derived.Maps.RangeWalk
import Derived.Sort.OwnSortedInts
import Derived.Shelf.Sort.Plain
import Derived.Shelf.Slices.In.SortNone2
import Derived.Ground.NamesProg
namespace Go.Proofs.Ytkliebhpdcjdgaa
open Go.RowKit Go.Shelf Go.Maps Go.Sort

def laysSI_ren : Go.Shelf.Ren := ⟨fun | 191 => 61 | 189 => 99 | 125 => 51 | 257 => 126 | 128 => 90 | 129 => 91 | 294 => 161 | 295 => 162 | 296 => 163 | 297 => 164 | 298 => 165 | 299 => 166 | 216 => 94 | 300 => 167 | 301 => 168 | 328 => 182 | 329 => 183 | 330 => 184 | 331 => 185 | 332 => 186 | 215 => 124 | 343 => 191 | n => n, fun | 28 => 22 | 0 => 0 | 3 => 3 | 46 => 79 | 51 => 127 | 53 => 92 | 4 => 4 | 183 => 189 | 182 => 188 | 131 => 89 | 5 => 5 | 9 => 9 | 218 => 204 | 222 => 200 | 228 => 212 | 229 => 208 | n => n, fun | n => n⟩
theorem laysSI : Go.Proofs.Lays.n191 Try.prog laysSI_ren := {
  mixed := by kernel_rfl
  f125 := Try.func51.trans (congrArg some (by kernel_rfl))
  f128 := Try.func90.trans (congrArg some (by kernel_rfl))
  f129 := Try.func91.trans (congrArg some (by kernel_rfl))
  f189 := Try.func99.trans (congrArg some (by kernel_rfl))
  f191 := Try.func61.trans (congrArg some (by kernel_rfl))
  f215 := Try.func124.trans (congrArg some (by kernel_rfl))
  f216 := Try.func94.trans (congrArg some (by kernel_rfl))
  f257 := Try.func126.trans (congrArg some (by kernel_rfl))
  f294 := Try.func161.trans (congrArg some (by kernel_rfl))
  f295 := Try.func162.trans (congrArg some (by kernel_rfl))
  f296 := Try.func163.trans (congrArg some (by kernel_rfl))
  f297 := Try.func164.trans (congrArg some (by kernel_rfl))
  f298 := Try.func165.trans (congrArg some (by kernel_rfl))
  f299 := Try.func166.trans (congrArg some (by kernel_rfl))
  f300 := Try.func167.trans (congrArg some (by kernel_rfl))
  f301 := Try.func168.trans (congrArg some (by kernel_rfl))
  f328 := Try.func182.trans (congrArg some (by kernel_rfl))
  f329 := Try.func183.trans (congrArg some (by kernel_rfl))
  f330 := Try.func184.trans (congrArg some (by kernel_rfl))
  f331 := Try.func185.trans (congrArg some (by kernel_rfl))
  f332 := Try.func186.trans (congrArg some (by kernel_rfl))
  f343 := Try.func191.trans (congrArg some (by kernel_rfl))
  t0 := Try.underlying0
  a0 := Try.isAgg0
  z0 := Try.sizeOf0
  v0 := Try.zeroValue0
  t3 := Try.underlying3
  a3 := Try.isAgg3
  z3 := Try.sizeOf3
  v3 := Try.zeroValue3
  t4 := Try.underlying4
  a4 := Try.isAgg4
  z4 := Try.sizeOf4
  v4 := Try.zeroValue4
  t5 := Try.underlying5
  a5 := Try.isAgg5
  z5 := Try.sizeOf5
  v5 := Try.zeroValue5
  t9 := Try.underlying9
  a9 := Try.isAgg9
  z9 := Try.sizeOf9
  v9 := Try.zeroValue9
  t28 := Try.underlying22
  a28 := Try.isAgg22
  z28 := Try.sizeOf22
  v28 := Try.zeroValue22
  t46 := Try.underlying79
  a46 := Try.isAgg79
  z46 := Try.sizeOf79
  v46 := Try.zeroValue79
  t51 := Try.underlying127
  a51 := Try.isAgg127
  z51 := Try.sizeOf127
  v51 := Try.zeroValue127
  t53 := Try.underlying92
  a53 := Try.isAgg92
  z53 := Try.sizeOf92
  v53 := Try.zeroValue92
  t131 := Try.underlying89
  a131 := Try.isAgg89
  z131 := Try.sizeOf89
  v131 := Try.zeroValue89
  t182 := Try.underlying188
  a182 := Try.isAgg188
  z182 := Try.sizeOf188
  v182 := Try.zeroValue188
  t183 := Try.underlying189
  a183 := Try.isAgg189
  z183 := Try.sizeOf189
  v183 := Try.zeroValue189
  t218 := Try.underlying204
  a218 := Try.isAgg204
  z218 := Try.sizeOf204
  v218 := Try.zeroValue204
  t222 := Try.underlying200
  a222 := Try.isAgg200
  z222 := Try.sizeOf200
  v222 := Try.zeroValue200
  t228 := Try.underlying212
  a228 := Try.isAgg212
  z228 := Try.sizeOf212
  v228 := Try.zeroValue212
  t229 := Try.underlying208
  a229 := Try.isAgg208
  z229 := Try.sizeOf208
  v229 := Try.zeroValue208 }
theorem wf_of {x : Int} (h1 : -9223372036854775808 ≤ x) (h2 : x ≤ 9223372036854775807) : (Lit.int .i64 x).wf = true := by
  have a : IntKind.i64.min = -9223372036854775808 := by decide
  have b : IntKind.i64.max = 9223372036854775807 := by decide
  simp [Lit.wf, a, b]; omega
theorem Kint : Keyed Try.prog 3 := int_keyed Try.underlying3
theorem nodup_len : ∀ {zs xs : List Int}, zs.Nodup → (∀ x ∈ zs, x ∈ xs) → zs.length ≤ xs.length
  | [], _, _, _ => Nat.zero_le _
  | z :: zs, xs, hn, h => by
    rw [List.nodup_cons] at hn
    have hz := h z (List.mem_cons_self ..)
    have ih := nodup_len (xs := xs.erase z) hn.2 fun x hx => (List.mem_erase_of_ne (fun e => by subst e; exact hn.1 hx)).2 (h x (List.mem_cons_of_mem _ hx))
    rw [List.length_erase_of_mem hz] at ih
    have := List.length_pos_of_mem hz
    rw [List.length_cons]; omega
/-- Block b is a set of numbers: those of which p holds. -/
def SetI (w : World) (b n : Nat) (D : DataW Unit) (p : Int → Bool) : Prop := w.ownsMap Try.prog 3 (plainElem (H := Unit) Try.prog 4) b n D ∧ IsMap D ∧ ∀ x : Int, has D (.int .i64 x) = p x
theorem SetI.made (w : World) : SetI (w.alloc (.map #[] 0)) w.heap.size 0 (.map []) (fun _ => false) := ⟨World.ownsMap_made w Try.prog _ _, ⟨[], rfl⟩, fun _ => rfl⟩
theorem SetI.next {w w' : World} {b n m : Nat} {D : DataW Unit} {p : Int → Bool} {x : Int} {d : DataW Unit} (h : SetI w b n D p) (h' : w'.ownsMap Try.prog 3 (plainElem (H := Unit) Try.prog 4) b m (D.put (.int .i64 x) d)) : SetI w' b m (D.put (.int .i64 x) d) (fun y => decide (y = x) || p y) := by
  obtain ⟨_, hm, hp⟩ := h
  refine ⟨h', ?_, fun y => ?_⟩
  · obtain ⟨es, rfl⟩ := hm
    exact ⟨_, rfl⟩
  · by_cases e : y = x
    · subst e
      rw [has_put_same hm (by trivial)]
      simp
    · rw [has_put_other (fun h => e (by injection h)), hp y]
      simp [e]
/-- What has come of the keys. -/
def GotI (D : DataW Unit) (left : Lit → Bool) (zs : List Int) : Prop := zs.Nodup ∧ ∀ x : Int, x ∈ zs ↔ (has D (.int .i64 x) = true ∧ left (.int .i64 x) = false)
theorem GotI.start (D : DataW Unit) : GotI D (has D) [] := ⟨List.nodup_nil, fun x => by cases has D (.int .i64 x) <;> simp⟩
theorem GotI.step {D : DataW Unit} {left : Lit → Bool} {zs : List Int} (h : GotI D left zs) {x : Int} {y : DataW Unit} (hlk : left (.int .i64 x) = true) (hat : ∀ zd, D.atKey (.int .i64 x) zd = y) : GotI D (fun z => left z && !z.sameKey (.int .i64 x)) (zs ++ [x]) := by
  have hhas : has D (.int .i64 x) = true := has_true_of_atKey hat
  have hnew : x ∉ zs := fun hx => by have := ((h.2 x).1 hx).2; rw [hlk] at this; cases this
  refine ⟨List.nodup_append.2 ⟨h.1, by simp, fun a ha b hb => by simp at hb; subst hb; exact fun e => hnew (e ▸ ha)⟩, fun y => ?_⟩
  by_cases hy : y = x
  · subst hy; simp [hhas, Lit.sameKey]
  · simp [h.2 y, hy, Lit.sameKey]
theorem sorted_allU {zs L : List Int} (hn : zs.Nodup) (hm : ∀ x, x ∈ zs ↔ x ∈ L) : (zs.mergeSort fun x y => decide (x ≤ y)) = allU L := by
  have hp := List.mergeSort_perm zs (fun x y => decide (x ≤ y))
  refine allU_of ?_ (fun z => by rw [hp.mem_iff, hm])
  have hs := List.pairwise_mergeSort (le := fun x y : Int => decide (x ≤ y)) (fun a b c h1 h2 => by simp at h1 h2 ⊢; omega) (fun a b => by simp; omega) zs
  have hnd : (zs.mergeSort fun x y => decide (x ≤ y)).Nodup := hp.nodup_iff.2 hn
  rw [Up]
  exact hs.imp₂ (fun a b h1 h2 => by simp at h1; omega) hnd
/-- The numbers among the first k. -/
def inTo (xs : List Int) (k : Nat) (y : Int) : Bool := decide (y ∈ xs.take k)
theorem inTo_next {xs : List Int} {k : Nat} {x : Int} (h : xs[k]? = some x) : (fun y => decide (y = x) || inTo xs k y) = inTo xs (k + 1) := by
  funext y
  unfold inTo
  rw [List.take_add_one, h]
  simp only [Option.toList_some, List.mem_append, List.mem_singleton, Bool.decide_or]
  rw [Bool.or_comm]
theorem own_none {w : World} {base n c : Nat} {t : TypeId} {A : Option Addr} {xs : List Value} (h : Own w base t 1 A n c xs) : (A = none ∧ n = 0 ∧ c = 0) ∨ ∃ g cur, A = some ⟨g, 0, none⟩ ∧ base ≤ g ∧ w.heap[g]? = some (.cells cur t (0, 0)) ∧ n ≤ c ∧ c ≤ maxLen ∧ cur.size = c * 1 ∧ cur.toList.take (n * 1) = xs := by
  rcases h.2 with ⟨hv, h0⟩ | ⟨g, cap, cur, hv, hb, hh, h1, h2, h3, h4⟩
  · injection hv with e1 e2 e3
    exact .inl ⟨e1, e2, e3⟩
  · injection hv with e1 e2 e3
    subst e3
    exact .inr ⟨g, cur, e1, hb, hh, h1, h2, h3, h4⟩
/-- sort.Ints of a row of the call's own. -/
theorem sort_own {w : World} {base n c : Nat} {A : Option Addr} {zs : List Int} (h : Own w base 3 1 A n c (ints zs)) (hn : n ≤ 1000) :
    Calls Try.prog 61 #[.slice A n c] w fun e w' => e = .returned (.tuple #[]) ∧ Own w' base 3 1 A n c (ints (zs.mergeSort fun x y => decide (x ≤ y))) ∧ w.grownBy w' (blockOf A) := by
  have hl : zs.length = n := h.sl.ilen
  rcases own_none h with ⟨rfl, rfl, rfl⟩ | ⟨g, cur, rfl, hb, hh, h1, h2, h3, h4⟩
  · have hz : zs = [] := List.eq_nil_of_length_eq_zero hl
    subst hz
    refine (Any.sort_Ints_none laysSI none 0 w).mono ?_
    rintro e w' ⟨rfl, rfl⟩
    exact ⟨rfl, by simpa using h, World.grownBy.refl _ _⟩
  · subst hl
    rw [Nat.mul_one] at h4
    have hH : Holds (Value.int .i64) w g 0 zs.toArray := holds_of_blockI hh h4
    refine (Any.sort_Ints laysSI g 0 c zs w hH (Array.getElem?_eq_some_iff.1 hh).1 (by omega)).mono ?_
    rintro e w' ⟨rfl, nn, os, rfl⟩
    have hl2 : (zs.mergeSort fun x y => decide (x ≤ y)).length = zs.length := List.length_mergeSort zs
    exact ⟨rfl, ownsRow_sortedI hl2 hb hh h1 h2 h3, grownBy_sortedI _⟩
theorem Own.takeAny {w : World} {base n c m : Nat} {t : TypeId} {A : Option Addr} {zs : List Int} (h : Own w base t 1 A n c (ints zs)) (hm : m ≤ n) : Own w base t 1 A m c (ints (zs.take m)) := by
  by_cases h0 : n = 0
  · subst h0
    obtain rfl : m = 0 := by omega
    have hz : zs = [] := List.eq_nil_of_length_eq_zero h.sl.ilen
    subst hz
    exact h
  · have := Own.take h hm (by omega)
    rwa [Nat.mul_one, ints_take] at this
theorem grown_below' {w w' : World} {base size n c : Nat} {e : TypeId} {A : Option Addr} {xs : List Value} (h : Own w base e size A n c xs) (hg : w.grownBy w' (blockOf A)) (hb : base ≤ w.heap.size) : Below base w w' :=
  (Below.refl base w).grown hg hb fun _ hg' => (h.blk hg').1
set_option maxRecDepth 20000 in
set_option maxHeartbeats 3200000 in
theorem least_ok {A : Option Addr} {n c k : Nat} {xs : List Int} {w : World} (h : Si w A n c xs) (hd : ∀ x ∈ xs, 0 ≤ x ∧ x ≤ 72057594037927935) (hn : n ≤ 1000) (hk : k ≤ 1000) :
    Calls Try.prog 24 #[.int .i64 k, .slice A n c] w fun e w' => ∃ A' n' c', e = .returned (.slice A' n' c') ∧ Own w' w.heap.size 3 1 A' n' c' (ints ((allU xs).take k)) ∧ Below w.heap.size w w' := by
  have hm := h.len_max
  have HD := hide hd
  have HL := hide h.ilen
  clear hd
  have hmm := @run_makeMap Try.prog
  go_enter Try.func24, Try.ntmps24
  go_wp2_with fail
  clear hmm
  have hs0 : ∃ D, SetI (w.alloc (.map #[] 0)) w.heap.size 0 D (inTo xs 0) := ⟨_, SetI.made w⟩
  have hb0 : Below w.heap.size w (w.alloc (.map #[] 0)) := by repeat' (first | assumption | with_reducible exact Below.refl _ _ | with_reducible apply Below.drew | with_reducible apply below_drewN | with_reducible apply below_alloc | with_reducible refine below_set ?_ ?_ _ | (simp only [World.size_alloc, World.heap_drewN]; omega) | (simp; omega))
  have hl0 : w.heap.size < (w.alloc (.map #[] 0)).heap.size := by simp
  generalize w.alloc (.map #[] 0) = w1 at hs0 hb0 hl0 ⊢
  go_loopw [13] (fun i wr => ∃ (j : Nat) (D : DataW Unit), j ≤ n ∧ i = .int .i64 j ∧ Below w.heap.size w wr ∧ w.heap.size < wr.heap.size ∧ Hid (SetI wr w.heap.size j D (inTo xs j))) (fun i _ => n - (intOf i).toNat)
  case atStart => obtain ⟨D, hD⟩ := hs0; exact ⟨0, D, by omega, rfl, hb0, hl0, hD⟩
  case round =>
    clear hs0 hb0 hl0
    obtain ⟨j, D, hj, rfl, hb, hl, HS⟩ := hrel
    by_cases hlt : j < n
    · obtain ⟨ad, x, rfl, hbk, hx, hc⟩ := (h.below hb).icell hlt
      have hx0 := HD.out x (List.mem_of_getElem? hx)
      have hkey : keyOf Try.prog 3 (.int .i64 x) = some (.int .i64 x) := keyOf_int_mk Try.underlying3 (wf_of (by omega) (by omega))
      have hown := HS.out.1
      have HX := hide hx
      clear hx
      go_wp2_with (at_mapUpdate; refine wpList_mapUpdate_own wr rfl _ _ _ _ rfl 3 4 Kint Try.underlying96 (plainElem (H := Unit) Try.prog 4) w.heap.size j D rfl hown (by simp only [maxLen]; omega) (.int .i64 x) (.bool true) (.int .i64 x) rfl rfl hkey (.lit (.bool true)) [] (plainElem_bool Try.underlying4 true) ?_; intro w2 hm2 hg2)
      have hb2 : Below w.heap.size w w2 := hb.grown hg2 (Nat.le_of_lt hl) (fun q hq => by injection hq with hq; omega)
      have hl2 : w.heap.size < w2.heap.size := Nat.lt_of_lt_of_le hl hg2.size
      have HS2 := hide (HS.out.next hm2)
      rw [inTo_next HX.out] at HS2
      clear HS hm2 hg2 hown hb hl
      exact ⟨⟨j + 1, _, by omega, by go_num, hb2, hl2, HS2⟩, by simp [intOf]; omega⟩
    · obtain rfl : j = n := by omega
      have hown := HS.out.1
      have HM := hide HS.out.2.2
      clear HS
      go_wp2_with (first | (at_range; refine wpList_range_own _ rfl _ _ rfl 3 4 Kint Try.underlying96 (plainElem (H := Unit) Try.prog 4) w.heap.size j D rfl hown ?_; intro w3 hrg3 hg3 hs3))
      go_frame
      have hb3 : Below w.heap.size w w3 := hb.grown hg3 (Nat.le_of_lt hl) (fun q hq => by cases hq)
      obtain ⟨r, hr⟩ : ∃ r, wr.heap.size = r := ⟨_, rfl⟩
      have hlr : w.heap.size < r := by omega
      have hz3 : r + 1 ≤ w3.heap.size := by omega
      rw [hr] at hrg3
      rw [hr]
      have hg0 : GotI D (has D) [] := GotI.start D
      clear hown hb hl hr hg3 hs3
      go_loopw [8] (fun v wr => ∃ (left : Lit → Bool) (cnt : Nat) (zs : List Int) (A' : Option Addr) (c' : Nat), v = .slice A' zs.length c' ∧ wr.ranges Try.prog 3 (plainElem (H := Unit) Try.prog 4) w.heap.size r j D left cnt ∧ Own wr (r + 1) 3 1 A' zs.length c' (ints zs) ∧ Hid (GotI D left zs) ∧ Below w.heap.size w wr ∧ r + 1 ≤ wr.heap.size) (fun _ wr => wr.rangeLeft w.heap.size r)
      case atStart => exact ⟨_, _, [], none, 0, rfl, hrg3, Own.nil _ _ _ _, hg0, hb3, hz3⟩
      case round =>
        clear hrg3 hg0 hb3 hz3
        obtain ⟨left, cnt, zs, A', c', rfl, hrg, own, HG, hb, hzr⟩ := hrel
        have hzl : zs.length ≤ 1000 := by
          have := nodup_len HG.out.1 (xs := xs) fun x hx => by
            have h1 := ((HG.out.2 x).1 hx).1
            rw [HM.out x] at h1
            exact List.mem_of_mem_take (of_decide_eq_true h1)
          rw [HL.out] at this
          omega
        go_wp2_with (first | (at_next; refine wpList_next_ranges wr rfl _ rfl 3 Kint (plainElem (H := Unit) Try.prog 4) (Value.int .i64) (fun v : Value => v) (fun key kl hkey => by obtain ⟨x, rfl, _⟩ := Maps.keyOf_int_inv Try.underlying3 hkey; exact ⟨x, rfl⟩) (fun v y _ => ⟨v, rfl⟩) w.heap.size r j D left cnt rfl hrg ?_ ?_))
        · intro hc0 hl0
          have hmem : ∀ x, x ∈ zs ↔ x ∈ xs := fun x => by
            rw [HG.out.2 x, HM.out x]
            unfold inTo
            rw [← HL.out, List.take_length]
            simp [hl0]
          have hsort := sorted_allU HG.out.1 hmem
          have HSO := hide (sort_own own hzl)
          rw [hsort] at HSO
          obtain ⟨m, hmin, hmz, hmk⟩ : ∃ m : Nat, min (k : Int) (zs.length : Int) = (m : Int) ∧ m ≤ zs.length ∧ (allU xs).take k = (allU xs).take m := by
            have hle : (allU xs).length = zs.length := by rw [← hsort, List.length_mergeSort]
            refine ⟨min k zs.length, by omega, by omega, ?_⟩
            rw [← hle, List.take_eq_take_iff]
            simp
          have HK := hide hmk
          have hcp := own.cap.1
          clear hrg hmem hsort HG hl0 hmk
          go_wp2_with fail
          refine HSO.out.mono ?_
          rintro e w5 ⟨rfl, own5, gr5⟩
          go_wp2_with fail
          go_ret
          refine ⟨A', m, c', rfl, ?_, ?_⟩
          · rw [HK.out]
            exact (own5.takeAny hmz).mono (by omega)
          · exact hb.trans ((grown_below' own gr5 hzr).mono (by omega))
        · intro x cv kl ya yb w4 cnt4 hkey hlk hv hat hrg4 hlt hg4 hs4 hen
          obtain rfl : kl = .int .i64 x := by
            obtain ⟨x', ex, rfl, _⟩ := Maps.keyOf_int_inv Try.underlying3 hkey
            cases ex
            rfl
          have hm0 : wr.rangeLeft w.heap.size r = cnt := hrg.left_eq
          have own4 : Own w4 (r + 1) 3 1 A' zs.length c' (ints zs) := own.grown hg4 (fun g hg e => by injection e with e; have := (own.blk (g := g) (by rw [hg]; rfl)).1; omega)
          have hb4 : Below w.heap.size w w4 := hb.grown hg4 (by omega) (fun q hq => by injection hq with hq; omega)
          have HG4 := hide (HG.out.step hlk hat)
          have hz4 : r + 1 ≤ w4.heap.size := by omega
          clear own hb HG hrg hg4 hs4 hzr
          go_wp2_with (at_builtin; refine wpList_append_sl T_int rfl _ _ rfl (by rfl) (by rfl) (own4.alloc _) (Sl.lit (at_new _ _)) (by intro u hu; rw [List.mem_singleton] at hu; subst hu; rfl) (by simp only [maxLen]; omega) (by omega) (by rw [World.size_alloc]; omega) ?_; intro A5 c5 w5 ap)
          have own5 := ap.own
          have hb5 : Below w.heap.size w w5 := (below_alloc hb4 _).trans (ap.below.mono (by omega))
          have hrg5 := (hrg4.alloc (.cells #[.int .i64 x] 3)).kept ap.grow (fun e => by have := (own4.blk (g := w.heap.size) e.symm).1; omega) (fun e => by have := (own4.blk (g := r) e.symm).1; omega)
          have hz5 : r + 1 ≤ w5.heap.size := Nat.le_trans (by rw [World.size_alloc]; omega) ap.below.size
          go_roundw
          case rel => exact ⟨_, cnt4, zs ++ [x], A5, c5, by simp, hrg5, by rw [ints_append, List.length_append]; exact own5, HG4, hb5, hz5⟩
          case measure => rw [hrg5.left_eq, hm0]; exact hlt
end Go.Proofs.Ytkliebhpdcjdgaa
