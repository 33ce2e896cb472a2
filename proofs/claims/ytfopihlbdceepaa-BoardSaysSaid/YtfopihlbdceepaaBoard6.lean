/-
  board.find: the walk of the search. Conditions: the rules rise; there are few; the texts' lengths.
-/
import Derived.Test.YtfopihlbdceepaaBoard5
import Derived.Shelf.Small.Strs
import Derived.Ground.NamesProg
namespace Go.Proofs.Ytfopihlbdceepaa
open Go.RowKit Go.Shelf

def laysCmp_ren : Go.Shelf.Ren := ⟨fun | 106 => 50 | 213 => 68 | 265 => 101 | n => n, fun | 9 => 9 | 3 => 3 | n => n, fun | n => n⟩
theorem laysCmp : Go.Proofs.Lays.n106 Try.prog laysCmp_ren := {
  mixed := by kernel_rfl
  f106 := Try.func50.trans (congrArg some (by kernel_rfl))
  f213 := Try.func68.trans (congrArg some (by kernel_rfl))
  f265 := Try.func101.trans (congrArg some (by kernel_rfl))
  t3 := Try.underlying3
  a3 := Try.isAgg3
  z3 := Try.sizeOf3
  v3 := Try.zeroValue3
  t9 := Try.underlying9
  a9 := Try.isAgg9
  z9 := Try.sizeOf9
  v9 := Try.zeroValue9 }
def cmpV (a b : ByteArray) : Int := if ltB a b = true then -1 else if a = b then 0 else 1
theorem cmpV_is (a b : ByteArray) : Lib.compareBytes a.data.toList b.data.toList = cmpV a b := by
  rw [cmp_is]
  unfold cmpV ltB
  split
  · rfl
  · by_cases h : a = b
    · rw [if_pos h, if_pos (by rw [h])]
    · rw [if_neg h, if_neg (fun e => h (by8_inj e))]
theorem scmp_any (a b : ByteArray) (w : World) : Calls Try.prog 50 #[.string a, .string b] w fun e w' => e = .returned (.int .i64 (cmpV a b)) ∧ w = w' := by
  have k := Any.strings_Compare { laysCmp with } a b w
  rw [cmpV_is] at k
  exact k.mono fun e w' ⟨h1, h2⟩ => ⟨h1, h2.symm⟩
theorem find1_any (p key : ByteArray) (a b : Int) (w : World) : Calls Try.prog 49 #[.agg #[.string p, .int .i64 a, .int .i64 b], .string key] w fun e w' => e = .returned (.int .i64 (cmpV p key)) ∧ Below w.heap.size w w' := by
  go_enter Try.func49, Try.ntmps49
  go_wp2_with fail
  refine (scmp_any _ _ _).mono ?_
  rintro e w' ⟨rfl, rfl⟩
  go_wp2_with fail
  go_ret
  exact ⟨rfl, by repeat' (first | assumption | with_reducible exact Below.refl _ _ | with_reducible apply Below.drew | with_reducible apply below_drewN | with_reducible apply below_alloc | with_reducible refine below_set ?_ ?_ _ | (simp only [World.size_alloc, World.heap_drewN]; omega) | (simp; omega))⟩
/-- Is there one that begins so? -/
def hasR (key : ByteArray) (l : List Rul) : Bool := (look key l).isSome
theorem has_at {key : ByteArray} {l : List Rul} (hu : UpR l) {s : Rul} (h : l[posR key l]? = some s) : hasR key l = decide (cmpV s.1 key = 0) := by
  unfold hasR
  rw [look_at key hu, h]
  dsimp only
  have hl := posR_less (key := key) hu h
  rw [decide_eq_false (by omega)] at hl
  unfold cmpV
  rw [hl]
  by_cases e : s.1 = key
  · rw [if_pos e, if_neg (by simp), if_pos e]; rfl
  · rw [if_neg e, if_neg (by simp), if_neg e]; rfl
theorem has_end {key : ByteArray} {l : List Rul} (hu : UpR l) (h : l.length ≤ posR key l) : hasR key l = false := by
  unfold hasR
  rw [look_at key hu, List.getElem?_eq_none h]
  rfl
theorem cmp_less {key : ByteArray} {l : List Rul} (hu : UpR l) {h : Nat} {s : Rul} (hs : l[h]? = some s) : (cmpV s.1 key < 0) ↔ h < posR key l := by
  have hl := posR_less (key := key) hu hs
  unfold cmpV
  by_cases hh : h < posR key l
  · rw [decide_eq_true hh] at hl
    rw [hl, if_pos rfl]
    exact ⟨fun _ => hh, fun _ => by decide⟩
  · rw [decide_eq_false hh] at hl
    rw [hl, if_neg (by simp)]
    constructor
    · split <;> intro h <;> omega
    · exact fun h => absurd h hh
section
variable {A : Option Addr} {n c : Nat} {l : List Rul} {w : World} {key : ByteArray}
set_option maxRecDepth 20000 in
set_option maxHeartbeats 3200000 in
theorem bsf_any (h : Sr w A n c l) (hu : UpR l) (hn : n ≤ 1000) :
    Calls Try.prog 48 #[.slice A n c, .string key, .func (.func 49) #[] #[]] w fun e w' => e = .returned (.tuple #[.int .i64 (posR key l : Nat), .bool (hasR key l)]) ∧ Below w.heap.size w w' := by
  have hm := h.len_max
  have HL := hide h.rlen
  have HU := hide hu
  have hpl : posR key l ≤ n := by rw [← h.rlen]; exact posR_le key l
  obtain ⟨P, hP⟩ : ∃ P, posR key l = P := ⟨_, rfl⟩
  have HP := hide hP
  rw [hP] at hpl ⊢
  have eg := enters_fn Try.func49 rfl rfl
  clear hu hP
  go_enter Try.func48, Try.ntmps48
  go_wp2_with fail
  go_loopw [9, 10] (fun i j wr => ∃ a b : Nat, a ≤ P ∧ P ≤ b ∧ b ≤ n ∧ i = .int .i64 a ∧ j = .int .i64 b ∧ Below w.heap.size w wr) (fun i j _ => (intOf j).toNat - (intOf i).toNat)
  case atStart => exact ⟨0, n, Nat.zero_le _, hpl, Nat.le_refl _, rfl, rfl, Below.refl _ _⟩
  case round =>
    obtain ⟨a, b, ha, hb1, hbn, rfl, rfl, hb⟩ := hrel
    by_cases hlt : a < b
    · obtain ⟨m, hm1⟩ : ∃ m : Nat, (a + b) / 2 = m := ⟨_, rfl⟩
      have hm2 : a ≤ m ∧ m < b := by omega
      have hm3 : ((a : Int) + (b : Int)) / 2 = (m : Int) := by omega
      have hm4 : IntKind.u64.wrap ((a : Int) + (b : Int)) = (a : Int) + (b : Int) := by rw [IntKind.wrap_u64]; omega
      have hm5 : IntKind.i64.wrap (m : Int) = (m : Int) := IntWalk.i64_in _ (by omega)
      have hmn : m < n := by omega
      obtain ⟨ad, r, rfl, hbk, hr, hc0, hc1, hc2⟩ := (h.below hb).rcell hmn
      have HC := hide (cmp_less (key := key) HU.out hr)
      rw [HP.out] at HC
      clear hr hm1
      obtain ⟨p, x, y⟩ := r
      dsimp only at hc0 hc1 hc2 HC
      obtain ⟨V, hV⟩ : ∃ V, cmpV p key = V := ⟨_, rfl⟩
      have CF := hide (find1_any p key x y)
      rw [hV] at CF HC
      clear hV
      by_cases hc : m < P
      · have t1 : V < 0 := HC.out.2 hc
        clear HC
        go_wp2_with fail
        refine (CF.out _).mono ?_
        rintro e w2 ⟨rfl, b2⟩
        go_wp2_with fail
        go_roundw
        case rel => exact ⟨m + 1, b, by omega, hb1, hbn, by go_num, rfl, below_on hb b2⟩
        case measure => simp [intOf]; omega
      · have t1 : ¬ V < 0 := fun h => hc (HC.out.1 h)
        clear HC
        go_wp2_with fail
        refine (CF.out _).mono ?_
        rintro e w2 ⟨rfl, b2⟩
        go_wp2_with fail
        go_roundw
        case rel => exact ⟨a, m, ha, by omega, by omega, rfl, rfl, below_on hb b2⟩
        case measure => simp [intOf]; omega
    · obtain rfl : a = P := by omega
      obtain rfl : b = a := by omega
      by_cases he : b < n
      · obtain ⟨ad, r, rfl, hbk, hr, hc0, hc1, hc2⟩ := (h.below hb).rcell he
        have HH := hide (has_at (key := key) HU.out (by rw [HP.out]; exact hr))
        clear hr
        obtain ⟨p, x, y⟩ := r
        dsimp only at hc0 hc1 hc2 HH
        have CF := hide (find1_any p key x y)
        obtain ⟨V, hV⟩ : ∃ V, cmpV p key = V := ⟨_, rfl⟩
        rw [hV] at CF HH
        clear hV
        go_wp2_with fail
        refine (CF.out _).mono ?_
        rintro e w2 ⟨rfl, b2⟩
        go_wp2_with fail
        go_ret2
        exact ⟨by rw [HH.out]; rfl, below_on hb b2⟩
      · have HH := hide (has_end (key := key) HU.out (by rw [HP.out, HL.out]; omega))
        go_wp2_with fail
        go_ret2
        exact ⟨by rw [HH.out]; rfl, hb⟩
set_option maxRecDepth 20000 in
theorem find_any (h : Sr w A n c l) (hu : UpR l) (hn : n ≤ 1000) :
    Calls Try.prog 24 #[.slice A n c, .string key] w fun e w' => e = .returned (.tuple #[.int .i64 (posR key l : Nat), .bool (hasR key l)]) ∧ Below w.heap.size w w' := by
  have HB := hide (bsf_any (key := key) h hu hn)
  clear h hu
  generalize posR key l = P at HB ⊢
  generalize hasR key l = H at HB ⊢
  go_enter Try.func24, Try.ntmps24
  go_wp2_with fail
  refine HB.out.mono ?_
  rintro e w2 ⟨rfl, b2⟩
  go_wp2_with fail
  go_ret2
  exact ⟨rfl, b2⟩
end
end Go.Proofs.Ytfopihlbdceepaa
