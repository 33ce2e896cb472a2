/-
  few.find: the walk of the search. Conditions: the keys rise; there are few.
-/
import Derived.Test.YtfopihlbdceepaaGreatFew1
import Derived.Test.YtfopihlbdceepaaGreatRev
namespace Go.Proofs.YtfopihlbdceepaaGreat
open Go.RowKit

/-- Where a key stands among the counters. -/
def posC (key : Int) (l : List Ct) : Nat := (l.takeWhile fun p => decide (p.1 < key)).length
theorem posC_le (key : Int) (l : List Ct) : posC key l ≤ l.length := (List.takeWhile_prefix _).length_le
theorem posC_less {key : Int} : ∀ {l : List Ct}, UpK l → ∀ {h : Nat} {s : Ct}, l[h]? = some s → (s.1 < key ↔ h < posC key l)
  | [], _, h, s, hs => by simp at hs
  | t :: l, hu, h, s, hs => by
    rw [UpK, List.pairwise_cons] at hu
    unfold posC
    rw [List.takeWhile_cons]
    by_cases ht : t.1 < key
    · rw [decide_eq_true ht]
      cases h with
      | zero => simp at hs; subst hs; simp [ht]
      | succ h =>
        rw [List.getElem?_cons_succ] at hs
        rw [posC_less hu.2 hs]
        simp [posC]
    · rw [decide_eq_false ht]
      cases h with
      | zero => simp at hs; subst hs; simpa using ht
      | succ h =>
        rw [List.getElem?_cons_succ] at hs
        have h1 := hu.1 s (List.mem_of_getElem? hs)
        simp
        omega
/-- Is the key there? -/
def hasC (key : Int) (l : List Ct) : Bool := match l[posC key l]? with | some s => decide (s.1 = key) | none => false
theorem addC_at (key n : Int) : ∀ {l : List Ct}, UpK l → addC key n l = match l[posC key l]? with
    | some s => if s.1 = key then l.set (posC key l) (key, s.2 + n) else l.take (posC key l) ++ (key, n) :: l.drop (posC key l)
    | none => l.take (posC key l) ++ (key, n) :: l.drop (posC key l)
  | [], _ => by simp [addC, posC]
  | s :: l, hu => by
    rw [UpK, List.pairwise_cons] at hu
    have ih := addC_at key n hu.2
    unfold addC
    by_cases hs : s.1 < key
    · have hp : posC key (s :: l) = posC key l + 1 := by simp [posC, List.takeWhile_cons, hs]
      rw [if_pos hs, hp, List.getElem?_cons_succ, ih]
      cases l[posC key l]? with
      | none => simp
      | some t =>
        dsimp only
        split <;> simp
    · have hp : posC key (s :: l) = 0 := by simp [posC, List.takeWhile_cons, hs]
      rw [if_neg hs, hp]
      dsimp only [List.getElem?_cons_zero]
      split
      · rename_i e; simp [e]
      · simp
/-- How often the key at its place came. -/
theorem cnt_at (key : Int) : ∀ {l : List Ct}, UpK l → cnt l key = match l[posC key l]? with | some s => if s.1 = key then s.2 else 0 | none => 0
  | [], _ => rfl
  | s :: l, hu => by
    rw [UpK, List.pairwise_cons] at hu
    have ih := cnt_at key hu.2
    rw [cnt_cons]
    by_cases hs : s.1 < key
    · have hp : posC key (s :: l) = posC key l + 1 := by simp [posC, List.takeWhile_cons, hs]
      rw [if_neg (by omega), hp, List.getElem?_cons_succ, ih]
      omega
    · have hp : posC key (s :: l) = 0 := by simp [posC, List.takeWhile_cons, hs]
      have hz : s.1 = key ∨ ¬ s.1 = key := Classical.em _
      have h0 : cnt l key = 0 := by
        unfold cnt
        rw [List.filter_eq_nil_iff.2 (fun z hz => by have := hu.1 z hz; simp; omega)]; rfl
      rw [hp, h0]
      dsimp only [List.getElem?_cons_zero]
      omega
def cmpI (a b : Int) : Int := if a < b then -1 else if b < a then 1 else 0
theorem find1C (k v key : Int) (w : World) : Calls Tryz.prog 38 #[.agg #[.int .i64 k, .int .i64 v], .int .i64 key] w fun e w' => e = .returned (.int .i64 (cmpI k key)) ∧ Below w.heap.size w w' := by
  have hb0 : Below w.heap.size w (w.alloc (.cells #[.int .i64 k, .int .i64 v] 40)) := by repeat' (first | assumption | with_reducible exact Below.refl _ _ | with_reducible apply Below.drew | with_reducible apply below_drewN | with_reducible apply below_alloc | with_reducible refine below_set ?_ ?_ _ | (simp only [World.size_alloc, World.heap_drewN]; omega) | (simp; omega))
  by_cases h1 : k < key
  · have HE := hide (show cmpI k key = -1 from if_pos h1)
    go_enter Tryz.func38, Tryz.ntmps38
    go_wp2_with fail
    rw [HE.out]
    go_ret
    exact ⟨rfl, hb0⟩
  · by_cases h2 : key < k
    · have HE := hide (show cmpI k key = 1 by unfold cmpI; rw [if_neg h1, if_pos h2])
      go_enter Tryz.func38, Tryz.ntmps38
      go_wp2_with fail
      rw [HE.out]
      go_ret
      exact ⟨rfl, hb0⟩
    · have HE := hide (show cmpI k key = 0 by unfold cmpI; rw [if_neg h1, if_neg h2])
      go_enter Tryz.func38, Tryz.ntmps38
      go_wp2_with fail
      rw [HE.out]
      go_ret
      exact ⟨rfl, hb0⟩
theorem cmpI_less {a b : Int} : cmpI a b < 0 ↔ a < b := by unfold cmpI; split <;> (try split) <;> omega
theorem cmpI_zero {a b : Int} : cmpI a b = 0 ↔ a = b := by unfold cmpI; split <;> (try split) <;> omega
section
variable {A : Option Addr} {n c : Nat} {l : List Ct} {w : World} {key : Int}
set_option maxRecDepth 20000 in
set_option maxHeartbeats 3200000 in
theorem bsfC_any (h : Sp w A n c l) (hu : UpK l) (hn : n ≤ 1000) :
    Calls Tryz.prog 37 #[.slice A n c, .int .i64 key, .func (.func 38) #[] #[]] w fun e w' => e = .returned (.tuple #[.int .i64 (posC key l : Nat), .bool (hasC key l)]) ∧ Below w.heap.size w w' := by
  have hm := h.len_max
  have HL := hide h.plen
  have HU := hide hu
  have hpl : posC key l ≤ n := by rw [← h.plen]; exact posC_le key l
  obtain ⟨P, hP⟩ : ∃ P, posC key l = P := ⟨_, rfl⟩
  have HP := hide hP
  rw [hP] at hpl ⊢
  have eg := entersF Tryz.func38 rfl rfl
  clear hu hP
  go_enter Tryz.func37, Tryz.ntmps37
  go_wp2_with fail
  go_loopw [9, 10] (fun i j wr => ∃ a b : Nat, a ≤ P ∧ P ≤ b ∧ b ≤ n ∧ i = .int .i64 a ∧ j = .int .i64 b ∧ Below w.heap.size w wr) (fun i j _ => (intOf j).toNat - (intOf i).toNat)
  case atStart => exact ⟨0, n, Nat.zero_le _, hpl, Nat.le_refl _, rfl, rfl, Below.refl _ _⟩
  case round =>
    obtain ⟨a, b, ha, hb1, hbn, rfl, rfl, hb⟩ := hrel
    by_cases hlt : a < b
    · obtain ⟨m, hm1⟩ : ∃ m : Nat, (a + b) / 2 = m := ⟨_, rfl⟩
      have hm2 : a ≤ m ∧ m < b := by omega
      have hm3 : ((a : Int) + (b : Int)) / 2 = (m : Int) := by omega
      have hm4 : IntKind.u64.wrap ((a : Int) + (b : Int)) = (a : Int) + (b : Int) := by rw [IntKind.wrap_u64]; omega
      have hm5 : IntKind.i64.wrap (m : Int) = (m : Int) := IntWalk.i64_in _ (by omega)
      have hmn : m < n := by omega
      obtain ⟨ad, r, rfl, hbk, hr, hc0, hc1⟩ := (h.below hb).pcell hmn
      have HC := hide (posC_less (key := key) HU.out hr)
      rw [HP.out] at HC
      clear hr hm1
      obtain ⟨x, y⟩ := r
      dsimp only at hc0 hc1 HC
      obtain ⟨V, hV⟩ : ∃ V, cmpI x key = V := ⟨_, rfl⟩
      have CF := hide (find1C x y key)
      have HC2 := hide (show V < 0 ↔ m < P by rw [← hV, cmpI_less]; exact HC.out)
      rw [hV] at CF
      clear hV HC
      by_cases hc : m < P
      · have t1 : V < 0 := HC2.out.2 hc
        clear HC2
        go_wp2_with fail
        refine (CF.out _).mono ?_
        rintro e w2 ⟨rfl, b2⟩
        go_wp2_with fail
        go_roundw
        case rel => exact ⟨m + 1, b, by omega, hb1, hbn, by go_num, rfl, below_on hb b2⟩
        case measure => simp [intOf]; omega
      · have t1 : ¬ V < 0 := fun h => hc (HC2.out.1 h)
        clear HC2
        go_wp2_with fail
        refine (CF.out _).mono ?_
        rintro e w2 ⟨rfl, b2⟩
        go_wp2_with fail
        go_roundw
        case rel => exact ⟨a, m, ha, by omega, by omega, rfl, rfl, below_on hb b2⟩
        case measure => simp [intOf]; omega
    · obtain rfl : a = P := by omega
      obtain rfl : b = a := by omega
      by_cases he : b < n
      · obtain ⟨ad, r, rfl, hbk, hr, hc0, hc1⟩ := (h.below hb).pcell he
        obtain ⟨x, y⟩ := r
        have HH := hide (show hasC key l = decide (x = key) by unfold hasC; rw [HP.out, hr])
        clear hr
        dsimp only at hc0 hc1
        have CF := hide (find1C x y key)
        obtain ⟨V, hV⟩ : ∃ V, cmpI x key = V := ⟨_, rfl⟩
        have HV := hide (show hasC key l = decide (V = 0) by rw [HH.out, ← hV]; exact decide_eq_decide.2 cmpI_zero.symm)
        rw [hV] at CF
        clear hV HH
        go_wp2_with fail
        refine (CF.out _).mono ?_
        rintro e w2 ⟨rfl, b2⟩
        go_wp2_with fail
        go_ret2
        exact ⟨by rw [HV.out]; rfl, below_on hb b2⟩
      · have HH := hide (show hasC key l = false by unfold hasC; rw [HP.out, List.getElem?_eq_none (by rw [HL.out]; omega)])
        go_wp2_with fail
        go_ret2
        exact ⟨by rw [HH.out]; rfl, hb⟩
set_option maxRecDepth 20000 in
theorem findC_any (h : Sp w A n c l) (hu : UpK l) (hn : n ≤ 1000) :
    Calls Tryz.prog 27 #[.slice A n c, .int .i64 key] w fun e w' => e = .returned (.tuple #[.int .i64 (posC key l : Nat), .bool (hasC key l)]) ∧ Below w.heap.size w w' := by
  have HB := hide (bsfC_any (key := key) h hu hn)
  clear h hu
  generalize posC key l = P at HB ⊢
  generalize hasC key l = H at HB ⊢
  go_enter Tryz.func27, Tryz.ntmps27
  go_wp2_with fail
  refine HB.out.mono ?_
  rintro e w2 ⟨rfl, b2⟩
  go_wp2_with fail
  go_ret2
  exact ⟨rfl, b2⟩
end
end Go.Proofs.YtfopihlbdceepaaGreat
