/- Proves the parts of the claim that its last text joins: FindC, InsP, Kept, CopyK, Open3. Conditions: those that each theorem names. -/
import Derived.Test.YtjpbjghdplbdcaaGreatDoorM10
import Derived.Laws.LoneSync
import Derived.Test.YtjpbjghdplbdcaaGreatDoorM05
import Derived.Laws.IdiomCopy
section
namespace Go.Proofs.YtjpbjghdplbdcaaGreatDoor
open Go.RowKit
def posC (key : Int) (l : List Ct) : Nat := (l.takeWhile fun p => decide (p.1 < key)).length
theorem posC_le (key : Int) (l : List Ct) : posC key l ≤ l.length := (List.takeWhile_prefix _).length_le
theorem posC_less {key : Int} : ∀ {l : List Ct}, UpK l → ∀ {h : Nat} {s : Ct}, l[h]? = some s → (s.1 < key ↔ h < posC key l)
  | [], _, h, s, hs => by simp at hs
  | t :: l, hu, h, s, hs => by
    rw [UpK, List.pairwise_cons] at hu
    unfold posC
    rw [List.takeWhile_cons]
    by_cases ht : t.1 < key
    · rw [decide_eq_true ht]
      cases h with
      | zero => simp at hs; subst hs; simp [ht]
      | succ h =>
        rw [List.getElem?_cons_succ] at hs
        rw [posC_less hu.2 hs]
        simp [posC]
    · rw [decide_eq_false ht]
      cases h with
      | zero => simp at hs; subst hs; simpa using ht
      | succ h =>
        rw [List.getElem?_cons_succ] at hs
        have h1 := hu.1 s (List.mem_of_getElem? hs)
        simp
        omega
def hasC (key : Int) (l : List Ct) : Bool := match l[posC key l]? with | some s => decide (s.1 = key) | none => false
theorem addC_at (key n : Int) : ∀ {l : List Ct}, UpK l → addC key n l = match l[posC key l]? with
    | some s => if s.1 = key then l.set (posC key l) (key, s.2 + n) else l.take (posC key l) ++ (key, n) :: l.drop (posC key l)
    | none => l.take (posC key l) ++ (key, n) :: l.drop (posC key l)
  | [], _ => by simp [addC, posC]
  | s :: l, hu => by
    rw [UpK, List.pairwise_cons] at hu
    have ih := addC_at key n hu.2
    unfold addC
    by_cases hs : s.1 < key
    · have hp : posC key (s :: l) = posC key l + 1 := by simp [posC, List.takeWhile_cons, hs]
      rw [if_pos hs, hp, List.getElem?_cons_succ, ih]
      cases l[posC key l]? with
      | none => simp
      | some t =>
        dsimp only
        split <;> simp
    · have hp : posC key (s :: l) = 0 := by simp [posC, List.takeWhile_cons, hs]
      rw [if_neg hs, hp]
      dsimp only [List.getElem?_cons_zero]
      split
      · rename_i e; simp [e]
      · simp
theorem cnt_at (key : Int) : ∀ {l : List Ct}, UpK l → cnt l key = match l[posC key l]? with | some s => if s.1 = key then s.2 else 0 | none => 0
  | [], _ => rfl
  | s :: l, hu => by
    rw [UpK, List.pairwise_cons] at hu
    have ih := cnt_at key hu.2
    rw [cnt_cons]
    by_cases hs : s.1 < key
    · have hp : posC key (s :: l) = posC key l + 1 := by simp [posC, List.takeWhile_cons, hs]
      rw [if_neg (by omega), hp, List.getElem?_cons_succ, ih]
      omega
    · have hp : posC key (s :: l) = 0 := by simp [posC, List.takeWhile_cons, hs]
      have hz : s.1 = key ∨ ¬ s.1 = key := Classical.em _
      have h0 : cnt l key = 0 := by
        unfold cnt
        rw [List.filter_eq_nil_iff.2 (fun z hz => by have := hu.1 z hz; simp; omega)]; rfl
      rw [hp, h0]
      dsimp only [List.getElem?_cons_zero]
      omega
def cmpI (a b : Int) : Int := if a < b then -1 else if b < a then 1 else 0
theorem find1C (k v key : Int) (w : World) : Calls Tryz.prog 305 #[.agg #[.int .i64 k, .int .i64 v], .int .i64 key] w fun e w' => e = .returned (.int .i64 (cmpI k key)) ∧ Below w.heap.size w w' := by
  have hb0 : Below w.heap.size w (w.alloc (.cells #[.int .i64 k, .int .i64 v] 128)) := by repeat' (first | assumption | with_reducible exact Below.refl _ _ | with_reducible apply Below.drew | with_reducible apply below_drewN | with_reducible apply below_alloc | with_reducible refine below_set ?_ ?_ _ | (simp only [World.size_alloc, World.heap_drewN]; omega) | (simp; omega))
  by_cases h1 : k < key
  · have HE := hide (show cmpI k key = -1 from if_pos h1)
    go_enter Tryz.func305, Tryz.ntmps305
    go_wp2_with fail
    rw [HE.out]
    go_ret
    exact ⟨rfl, hb0⟩
  · by_cases h2 : key < k
    · have HE := hide (show cmpI k key = 1 by unfold cmpI; rw [if_neg h1, if_pos h2])
      go_enter Tryz.func305, Tryz.ntmps305
      go_wp2_with fail
      rw [HE.out]
      go_ret
      exact ⟨rfl, hb0⟩
    · have HE := hide (show cmpI k key = 0 by unfold cmpI; rw [if_neg h1, if_neg h2])
      go_enter Tryz.func305, Tryz.ntmps305
      go_wp2_with fail
      rw [HE.out]
      go_ret
      exact ⟨rfl, hb0⟩
theorem cmpI_less {a b : Int} : cmpI a b < 0 ↔ a < b := by unfold cmpI; split <;> (try split) <;> omega
theorem cmpI_zero {a b : Int} : cmpI a b = 0 ↔ a = b := by unfold cmpI; split <;> (try split) <;> omega
section
variable {A : Option Addr} {n c : Nat} {l : List Ct} {w : World} {key : Int}
set_option maxRecDepth 20000 in
set_option maxHeartbeats 3200000 in
theorem bsfC_any (h : Sp w A n c l) (hu : UpK l) (hn : n ≤ 1000) :
    Calls Tryz.prog 304 #[.slice A n c, .int .i64 key, .func (.func 305) #[] #[]] w fun e w' => e = .returned (.tuple #[.int .i64 (posC key l : Nat), .bool (hasC key l)]) ∧ Below w.heap.size w w' := by
  have hm := h.len_max
  have HL := hide h.plen
  have HU := hide hu
  have hpl : posC key l ≤ n := by rw [← h.plen]; exact posC_le key l
  obtain ⟨P, hP⟩ : ∃ P, posC key l = P := ⟨_, rfl⟩
  have HP := hide hP
  rw [hP] at hpl ⊢
  have eg := entersF Tryz.func305 rfl rfl
  clear hu hP
  go_enter Tryz.func304, Tryz.ntmps304
  go_wp2_with fail
  go_loopw [9, 10] (fun i j wr => ∃ a b : Nat, a ≤ P ∧ P ≤ b ∧ b ≤ n ∧ i = .int .i64 a ∧ j = .int .i64 b ∧ Below w.heap.size w wr) (fun i j _ => (intOf j).toNat - (intOf i).toNat)
  case atStart => exact ⟨0, n, Nat.zero_le _, hpl, Nat.le_refl _, rfl, rfl, Below.refl _ _⟩
  case round =>
    obtain ⟨a, b, ha, hb1, hbn, rfl, rfl, hb⟩ := hrel
    by_cases hlt : a < b
    · obtain ⟨m, hm1⟩ : ∃ m : Nat, (a + b) / 2 = m := ⟨_, rfl⟩
      have hm2 : a ≤ m ∧ m < b := by omega
      have hm3 : ((a : Int) + (b : Int)) / 2 = (m : Int) := by omega
      have hm4 : IntKind.u64.wrap ((a : Int) + (b : Int)) = (a : Int) + (b : Int) := by rw [IntKind.wrap_u64]; omega
      have hm5 : IntKind.i64.wrap (m : Int) = (m : Int) := IntWalk.i64_in _ (by omega)
      have hmn : m < n := by omega
      obtain ⟨ad, r, rfl, hbk, hr, hc0, hc1⟩ := (h.below hb).pcell hmn
      have HC := hide (posC_less (key := key) HU.out hr)
      rw [HP.out] at HC
      clear hr hm1
      obtain ⟨x, y⟩ := r
      dsimp only at hc0 hc1 HC
      obtain ⟨V, hV⟩ : ∃ V, cmpI x key = V := ⟨_, rfl⟩
      have CF := hide (find1C x y key)
      have HC2 := hide (show V < 0 ↔ m < P by rw [← hV, cmpI_less]; exact HC.out)
      rw [hV] at CF
      clear hV HC
      by_cases hc : m < P
      · have t1 : V < 0 := HC2.out.2 hc
        clear HC2
        go_wp2_with fail
        refine (CF.out _).mono ?_
        rintro e w2 ⟨rfl, b2⟩
        go_wp2_with fail
        go_roundw
        case rel => exact ⟨m + 1, b, by omega, hb1, hbn, by go_num, rfl, below_on hb b2⟩
        case measure => simp [intOf]; omega
      · have t1 : ¬ V < 0 := fun h => hc (HC2.out.1 h)
        clear HC2
        go_wp2_with fail
        refine (CF.out _).mono ?_
        rintro e w2 ⟨rfl, b2⟩
        go_wp2_with fail
        go_roundw
        case rel => exact ⟨a, m, ha, by omega, by omega, rfl, rfl, below_on hb b2⟩
        case measure => simp [intOf]; omega
    · obtain rfl : a = P := by omega
      obtain rfl : b = a := by omega
      by_cases he : b < n
      · obtain ⟨ad, r, rfl, hbk, hr, hc0, hc1⟩ := (h.below hb).pcell he
        obtain ⟨x, y⟩ := r
        have HH := hide (show hasC key l = decide (x = key) by unfold hasC; rw [HP.out, hr])
        clear hr
        dsimp only at hc0 hc1
        have CF := hide (find1C x y key)
        obtain ⟨V, hV⟩ : ∃ V, cmpI x key = V := ⟨_, rfl⟩
        have HV := hide (show hasC key l = decide (V = 0) by rw [HH.out, ← hV]; exact decide_eq_decide.2 cmpI_zero.symm)
        rw [hV] at CF
        clear hV HH
        go_wp2_with fail
        refine (CF.out _).mono ?_
        rintro e w2 ⟨rfl, b2⟩
        go_wp2_with fail
        go_ret2
        exact ⟨by rw [HV.out]; rfl, below_on hb b2⟩
      · have HH := hide (show hasC key l = false by unfold hasC; rw [HP.out, List.getElem?_eq_none (by rw [HL.out]; omega)])
        go_wp2_with fail
        go_ret2
        exact ⟨by rw [HH.out]; rfl, hb⟩
set_option maxRecDepth 20000 in
theorem findC_any (h : Sp w A n c l) (hu : UpK l) (hn : n ≤ 1000) :
    Calls Tryz.prog 247 #[.slice A n c, .int .i64 key] w fun e w' => e = .returned (.tuple #[.int .i64 (posC key l : Nat), .bool (hasC key l)]) ∧ Below w.heap.size w w' := by
  have HB := hide (bsfC_any (key := key) h hu hn)
  clear h hu
  generalize posC key l = P at HB ⊢
  generalize hasC key l = H at HB ⊢
  go_enter Tryz.func247, Tryz.ntmps247
  go_wp2_with fail
  refine HB.out.mono ?_
  rintro e w2 ⟨rfl, b2⟩
  go_wp2_with fail
  go_ret2
  exact ⟨rfl, b2⟩
end
end Go.Proofs.YtjpbjghdplbdcaaGreatDoor
end
section
namespace Go.Proofs.YtjpbjghdplbdcaaGreatDoor
open Go.RowKit
theorem layAt_eq : ∀ (vs xs : List Value) (o : Nat), o + vs.length ≤ xs.length → layAt xs o vs = xs.take o ++ vs ++ xs.drop (o + vs.length)
  | [], xs, o, _ => by simp [layAt]
  | v :: vs, xs, o, h => by
    have h' : o + 1 + vs.length ≤ (xs.set o v).length := by rw [List.length_set]; simp at h; omega
    have ho : o < xs.length := by simp at h; omega
    rw [layAt, layAt_eq vs _ (o + 1) h', List.drop_set_of_lt (by omega), List.take_add_one, List.take_set_of_le (Nat.le_refl _), List.getElem?_set_self ho]
    simp only [Option.toList_some, List.append_assoc, List.cons_append, List.nil_append, List.length_cons]
    rw [show o + 1 + vs.length = o + (vs.length + 1) by omega]
theorem layAt_len : ∀ (vs xs : List Value) (o : Nat), (layAt xs o vs).length = xs.length
  | [], _, _ => rfl
  | v :: vs, xs, o => by rw [layAt, layAt_len vs, List.length_set]
theorem heap_setCells (g : Nat) (t : TypeId) : ∀ (vs : List Value) (o : Nat) (w : World) (cur : Array Value), w.heap[g]? = some (.cells cur t (0, 0)) → (w.setCells g o vs).heap[g]? = some (.cells (layAt cur.toList o vs).toArray t (0, 0)) ∧ w.grownBy (w.setCells g o vs) (some g)
  | [], o, w, cur, h => ⟨by simpa [World.setCells, layAt] using h, World.grownBy.refl _ _⟩
  | v :: vs, o, w, cur, h => by
    have h1 := heap_setCell_same w g o cur t v h
    obtain ⟨h2, h3⟩ := heap_setCells g t vs (o + 1) _ _ h1
    refine ⟨?_, (grown_set w g o v).trans h3⟩
    rw [Array.toList_setIfInBounds] at h2
    exact h2
theorem Own.row {w : World} {base n c : Nat} {t : TypeId} {A : Option Addr} {xs : List Value} {size : Nat} (h : Own w base t size A n c xs) (hc : 0 < c) :
    ∃ g cur, A = some ⟨g, 0, none⟩ ∧ base ≤ g ∧ w.heap[g]? = some (.cells cur t (0, 0)) ∧ cur.size = c * size ∧ cur.toList.take (n * size) = xs := by
  rcases h.2 with ⟨hv, _⟩ | ⟨g, cap, cur, hv, hb, hh, _, _, h3, h4⟩
  · injection hv with _ _ e3; omega
  · injection hv with e1 e2 e3
    subst e3
    exact ⟨g, cur, e1, hb, hh, h3, h4⟩
theorem Own.of_row {w : World} {base n c g : Nat} {t : TypeId} {xs : List Value} {size : Nat} {cur : Array Value} (hb : base ≤ g) (hh : w.heap[g]? = some (.cells cur t (0, 0))) (hs : cur.size = c * size) (hn : n ≤ c) (hm : c ≤ maxLen) (hx : cur.toList.take (n * size) = xs) : Own w base t size (some ⟨g, 0, none⟩) n c xs := by
  refine ⟨?_, .inr ⟨g, c, cur, rfl, hb, hh, hn, hm, hs, hx⟩⟩
  rw [← hx, List.length_take, Array.length_toList, hs, Nat.min_eq_left (Nat.mul_le_mul_right _ hn)]
theorem Blk.shape {w : World} {g : Nat} {t : TypeId} {cs : Array Value} (h : Blk w g t cs) (h0 : 0 < cs.size) : ∃ e k, w.shape? g = some (e, k) ∧ k ≠ 0 := by
  obtain ⟨e, k, h1, h2, _⟩ := World.shape?_of_cell? (h.at_ (i := 0) (Array.getElem?_eq_getElem h0))
  exact ⟨e, k, h1, by omega⟩
end Go.Proofs.YtjpbjghdplbdcaaGreatDoor
end
section
namespace Go.Proofs.YtjpbjghdplbdcaaGreatDoor
structure KeptOk {α : Type} (p : α → Bool) (xs ys : List α) (i j : Nat) : Prop where
  len : ys.length = xs.length
  le : i ≤ j
  low : ys.take i = (xs.take j).filter fun x => !p x
  high : ys.drop j = xs.drop j
section
variable {α : Type} {p : α → Bool} {xs ys : List α} {i j : Nat} {v : α}
theorem take_none {k : Nat} (h : ∀ (m : Nat) (x : α), m < k → xs[m]? = some x → p x = false) : (xs.take k).filter (fun x => !p x) = xs.take k := by
  rw [List.filter_eq_self]
  intro a ha
  obtain ⟨m, hm⟩ := List.getElem?_of_mem ha
  rw [List.getElem?_take] at hm
  split at hm
  · rename_i hk
    rw [h m a hk hm]; rfl
  · cases hm
theorem take_snoc {k : Nat} (hv : xs[k]? = some v) : xs.take (k + 1) = xs.take k ++ [v] := by rw [List.take_add_one, hv]; rfl
theorem KeptOk.start {k : Nat} (hv : xs[k]? = some v) (hp : p v = true) (h : ∀ (m : Nat) (x : α), m < k → xs[m]? = some x → p x = false) : KeptOk p xs xs k (k + 1) := by
  refine ⟨rfl, by omega, ?_, rfl⟩
  rw [take_snoc hv, List.filter_append, take_none h]
  simp [hp]
theorem KeptOk.at_ (h : KeptOk p xs ys i j) (hv : xs[j]? = some v) : ys[j]? = some v := by
  have := congrArg (fun l => l[0]?) h.high
  simpa [List.getElem?_drop, hv] using this
theorem KeptOk.keep (h : KeptOk p xs ys i j) (hlt : i < j) (hv : xs[j]? = some v) (hp : p v = false) : KeptOk p xs (ys.set i v) (i + 1) (j + 1) := by
  have hj : j < xs.length := (List.getElem?_eq_some_iff.1 hv).1
  have hl := h.len
  refine ⟨by rw [List.length_set, hl], by omega, ?_, ?_⟩
  · rw [take_snoc hv, List.filter_append, ← h.low, take_snoc (k := i) (v := v) (by rw [List.getElem?_set_self (by omega)]), List.take_set_of_le (Nat.le_refl _)]
    simp [hp]
  · rw [List.drop_set_of_lt (by omega)]
    have := congrArg (List.drop 1) h.high
    simpa [List.drop_drop] using this
theorem KeptOk.skip (h : KeptOk p xs ys i j) (hv : xs[j]? = some v) (hp : p v = true) : KeptOk p xs ys i (j + 1) := by
  refine ⟨h.len, by have := h.le; omega, ?_, ?_⟩
  · rw [take_snoc hv, List.filter_append, ← h.low]
    simp [hp]
  · have := congrArg (List.drop 1) h.high
    simpa [List.drop_drop] using this
theorem KeptOk.done (h : KeptOk p xs ys i xs.length) : ys.take i = xs.filter fun x => !p x := by
  have := h.low
  rwa [List.take_length] at this
theorem KeptOk.count (h : KeptOk p xs ys i j) : i = ((xs.take j).filter fun x => !p x).length ∨ ys.length < i := by
  by_cases hl : i ≤ ys.length
  · left
    rw [← h.low, List.length_take]; omega
  · right; omega
end
theorem flat_take {α : Type} {f : α → List Value} {size : Nat} (hf : ∀ d, (f d).length = size) : ∀ (ds : List α) (k : Nat), (ds.flatMap f).take (k * size) = (ds.take k).flatMap f
  | [], k => by simp
  | d :: ds, 0 => by simp
  | d :: ds, k + 1 => by
    rw [List.flatMap_cons, List.take_succ_cons, List.flatMap_cons, ← flat_take hf ds k, List.take_append, hf, List.take_of_length_le (by rw [hf, Nat.succ_mul]; omega), show (k + 1) * size - size = k * size by rw [Nat.succ_mul]; omega]
end Go.Proofs.YtjpbjghdplbdcaaGreatDoor
end
section
namespace Go.Proofs.YtjpbjghdplbdcaaGreatDoor
open Go.RowKit
theorem run_copy_cellsK {P : Program} (w : World) (dT sT ty elem : TypeId) (k b o dLen dCap : Nat) (a : Addr) (sLen sCap m : Nat) (cs : List Value)
    (hu : P.underlying dT = some (.slice elem)) (hs : (P.info? elem).map (·.size) = some k) (hm : Nat.min sLen dLen = m) (hn : cs.length = m * k)
    (hsrc : ∀ j v, cs[j]? = some v → w.cell? (a.add j) = some v) (hc : ∀ j, j < cs.length → (w.cell? ⟨b, o + j, none⟩).isSome = true) (hf : ∀ j, j < cs.length → w.frozen? ⟨b, o + j, none⟩ = false) (h1 : ∀ v ∈ cs, v.oneCell' = true) :
    (Builtin.copy_ #[dT, sT] ty #[.slice (some ⟨b, o, none⟩) dLen dCap, .slice (some a) sLen sCap]).run P w = .ok (goInt m) (w.setCells b o cs) := by
  have hl := run_loadCells_list (P := P) w a cs hsrc
  have hst := run_storeCells_cells (P := P) b o cs 0 w (by simpa using hc) (by simpa using hf) h1
  cases hq : P.info? elem with
  | none => simp [hq] at hs
  | some i =>
    have hi : i.size = k := by simpa [hq] using hs
    have hm' : min sLen dLen = m := hm
    rw [hn] at hl
    simp [Builtin.copy_, run_underlying hu, Builtin.lenOf, Builtin.firstCells, sizeOf, typeInfo, hq, hi, hm', hl, hst]
theorem flat_drop {α : Type} {f : α → List Value} {size : Nat} (hf : ∀ a, (f a).length = size) (xs : List α) (k : Nat) : (xs.flatMap f).drop (k * size) = (xs.drop k).flatMap f := by
  have h1 : xs.flatMap f = (xs.take k).flatMap f ++ (xs.drop k).flatMap f := by rw [← List.flatMap_append, List.take_append_drop]
  by_cases hk : k ≤ xs.length
  · rw [h1, List.drop_append_of_le_length (by rw [flat_len hf, List.length_take, Nat.min_eq_left hk]; exact Nat.le_refl _), List.drop_of_length_le (by rw [flat_len hf, List.length_take, Nat.min_eq_left hk]; exact Nat.le_refl _), List.nil_append]
  · rw [List.drop_of_length_le (by rw [flat_len hf]; exact Nat.mul_le_mul_right _ (by omega)), List.drop_of_length_le (by omega)]; rfl
theorem flat_ins {α : Type} {f : α → List Value} {size : Nat} (hf : ∀ a, (f a).length = size) (xs : List α) (x : α) (k : Nat) :
    (xs.take k ++ x :: xs.drop k).flatMap f = (xs.flatMap f).take (k * size) ++ f x ++ (xs.flatMap f).drop (k * size) := by
  rw [flat_drop hf, flat_take hf, List.flatMap_append, List.flatMap_cons, List.append_assoc]
theorem isSome_setCells' (b : Nat) (vs : List Value) (o : Nat) (w : World) (h : ∀ j, j < vs.length → (w.cell? ⟨b, o + j, none⟩).isSome = true) (k : Nat) (hk : (w.cell? ⟨b, k, none⟩).isSome = true) : ((w.setCells b o vs).cell? ⟨b, k, none⟩).isSome = true := by
  by_cases hin : o ≤ k ∧ k < o + vs.length
  · have := World.cell?_setCells_in b vs o w h (k - o) (by omega)
    rw [show o + (k - o) = k by omega] at this
    rw [this]; rfl
  · rw [World.cell?_setCells_out b vs o w ⟨b, k, none⟩ (fun _ _ => by show k < o ∨ o + vs.length ≤ k; omega)]
    exact hk
theorem lay_room {cur xs vs : List Value} {a N k : Nat} (hx : cur.take N = xs) (hv : vs.length = k) (ha : a ≤ N) (hN : N + k ≤ cur.length) :
    (layAt (layAt cur (a + k) (xs.drop a)) a vs).take (N + k) = xs.take a ++ vs ++ xs.drop a := by
  have hxl : xs.length = N := by rw [← hx, List.length_take]; omega
  have hdl : (xs.drop a).length = N - a := by rw [List.length_drop, hxl]
  have htl : (xs.take a).length = a := by rw [List.length_take, hxl, Nat.min_eq_left ha]
  have e0 : cur.take a = xs.take a := by rw [← hx, List.take_take, Nat.min_eq_left ha]
  rw [layAt_eq (xs.drop a) cur (a + k) (by rw [hdl]; omega), layAt_eq vs _ a (by simp; omega)]
  have e1 : (cur.take (a + k) ++ xs.drop a ++ cur.drop (a + k + (xs.drop a).length)).take a = xs.take a := by
    rw [List.append_assoc, List.take_append_of_le_length (by rw [List.length_take]; omega), List.take_take, Nat.min_eq_left (by omega), e0]
  have e2 : (cur.take (a + k) ++ xs.drop a ++ cur.drop (a + k + (xs.drop a).length)).drop (a + k) = xs.drop a ++ cur.drop (a + k + (xs.drop a).length) := by
    rw [List.append_assoc, List.drop_append_of_le_length (by rw [List.length_take]; omega), List.drop_of_length_le (by rw [List.length_take]; omega), List.nil_append]
  rw [hv, e1, e2, ← List.append_assoc, List.take_append_of_le_length (by simp only [List.length_append, htl, hv, hdl]; omega), List.take_of_length_le (by simp only [List.length_append, htl, hv, hdl]; omega)]
theorem lay_grow {xs zs ys vs : List Value} {a N k : Nat} (hxl : xs.length = N) (hv : vs.length = k) (ha : a ≤ N) (hz : zs.length = N + k - a) :
    (layAt (layAt (xs.take a ++ zs ++ ys) a vs) (a + k) (xs.drop a)).take (N + k) = xs.take a ++ vs ++ xs.drop a := by
  have hdl : (xs.drop a).length = N - a := by rw [List.length_drop, hxl]
  have htl : (xs.take a).length = a := by rw [List.length_take, hxl, Nat.min_eq_left ha]
  rw [layAt_eq vs _ a (by simp only [List.length_append, htl, hz, hv]; omega)]
  have e1 : (xs.take a ++ zs ++ ys).take a = xs.take a := by rw [List.append_assoc, List.take_append_of_le_length (by omega), List.take_of_length_le (by omega)]
  rw [e1, layAt_eq (xs.drop a) _ (a + k) (by simp only [List.length_append, htl, hz, hv, hdl, List.length_drop]; omega)]
  have e2 : (xs.take a ++ vs ++ (xs.take a ++ zs ++ ys).drop (a + vs.length)).take (a + k) = xs.take a ++ vs := by
    rw [List.take_append_of_le_length (by simp only [List.length_append, htl, hv]; omega), List.take_of_length_le (by simp only [List.length_append, htl, hv]; omega)]
  rw [e2, List.take_append_of_le_length (by simp only [List.length_append, htl, hv, hdl]; omega), List.take_of_length_le (by simp only [List.length_append, htl, hv, hdl]; omega)]
end Go.Proofs.YtjpbjghdplbdcaaGreatDoor
end
section
namespace Go.Proofs.YtjpbjghdplbdcaaGreatDoor
open Go.ChangeShapes Go.WideShapes Go.ChangeAt Go.RowKit Go.Deep
abbrev Row := Option Addr × Nat × Nat × List Int
def rowV (o : Row) : Value := .slice o.1 o.2.1 o.2.2.1
structure Ss (w : World) (A : Option Addr) (n c : Nat) (os : List Row) : Prop where
  s : Sl w w.heap.size 1 A n c (os.map rowV)
  r : ∀ o ∈ os, Si w o.1 o.2.1 o.2.2.1 o.2.2.2
theorem Ss.on {w w' : World} {A : Option Addr} {n c : Nat} {os : List Row} (h : Ss w A n c os) (hb : Below w.heap.size w w') : Ss w' A n c os := ⟨h.s.on hb, fun o ho => (h.r o ho).on hb⟩
theorem Ss.len {w : World} {A : Option Addr} {n c : Nat} {os : List Row} (h : Ss w A n c os) : os.length = n := by have := h.s.len; simpa using this
theorem Ss.cell {w : World} {A : Option Addr} {n c : Nat} {os : List Row} (h : Ss w A n c os) {j : Nat} (hj : j < n) :
    ∃ ad o, A = some ad ∧ ad.block < w.heap.size ∧ os[j]? = some o ∧ w.cell? (ad.add j) = some (.slice o.1 o.2.1 o.2.2.1) ∧ Si w o.1 o.2.1 o.2.2.1 o.2.2.2 := by
  have hl := h.len
  have hx : os[j]? = some (os[j]'(by omega)) := List.getElem?_eq_getElem (by omega)
  obtain ⟨ad, e, hb, hc⟩ := h.s.cell (j := j) (u := rowV (os[j]'(by omega))) (by rw [List.getElem?_map, hx]; rfl)
  exact ⟨ad, _, e, hb, hx, hc, h.r _ (List.mem_of_getElem? hx)⟩
section
variable {H : Type} {enc : TypeId × Value → H} {P : Program} {w : World} {base : Nat} {sp : Nat → Bool} {held : Bool}
end
end Go.Proofs.YtjpbjghdplbdcaaGreatDoor
end
