/- Proves the parts of the claim that its last text joins: DkR, RunP, TDeskP, TDeskQ1, TDeskQ2. Conditions: those that each theorem names. -/
import Derived.Test.YtjpbjghdplbdcaaGreatDoorM41
import Derived.Test.YtjpbjghdplbdcaaGreatDoorM42
section
namespace Go.Proofs.YtjpbjghdplbdcaaGreatDoor
open Go.RowKit Go.Shelf
def knownW : List (List UInt8) := [[112, 111, 110, 100], [108, 101, 97, 115, 116], [109, 97, 110, 121], [102, 101, 119], [97, 115, 107], [114, 117, 108, 101], [111, 102], [116, 104], [112, 97, 114, 116], [99, 111, 117, 110, 116], [109, 97, 114, 107]]
def lineR (xs : List (List UInt8)) : Option (Nat × (DSt → Said)) :=
  match xs with
  | [] => none
  | x0 :: _ =>
    if x0 = [112, 111, 110, 100] then pondD xs 1 else if x0 = [108, 101, 97, 115, 116] then leastD xs 1 else if x0 = [109, 97, 110, 121] then manyD xs 1 else if x0 = [102, 101, 119] then fewD xs 1 else if x0 = [97, 115, 107] then askD xs 1 else if x0 = [114, 117, 108, 101] then ruleD xs 1 else if x0 = [111, 102] then ofD xs 1 else if x0 = [116, 104] then thD xs 1 else if x0 = [112, 97, 114, 116] then partD xs 1 else if x0 = [99, 111, 117, 110, 116] then countD xs 1 else if x0 = [109, 97, 114, 107] then markD xs 1 else none
theorem pondD_ok {xs : List (List UInt8)} {k k' : Nat} {R : DSt → Said} (hk : k ≤ xs.length) (h : pondD xs k = some (k', R)) : k' ≤ xs.length ∧ ∀ s, Lo (R s).1 ∧ (DOk s → DOk (R s).2.1) ∧ Brief (R s).2.2 := by
  unfold pondD at h
  cases h0 : numAt xs k with
  | none => simp [h0] at h
  | some x0 =>
  cases h1 : numAt xs (k + 1) with
  | none => simp [h0, h1] at h
  | some x1 =>
  simp only [h0, h1, Option.some.injEq, Prod.mk.injEq] at h
  obtain ⟨rfl, rfl⟩ := h
  exact ⟨numAt_le h1, fun s => ⟨lo_pond s _ _, fun hO => pondS_ok hO (numAt_i64 h0), br_pond s _ _⟩⟩
theorem lineR_pond (t : List (List UInt8)) : lineR ([112, 111, 110, 100] :: t) = pondD ([112, 111, 110, 100] :: t) 1 := rfl
theorem leastD_ok {xs : List (List UInt8)} {k k' : Nat} {R : DSt → Said} (hk : k ≤ xs.length) (h : leastD xs k = some (k', R)) : k' ≤ xs.length ∧ ∀ s, Lo (R s).1 ∧ (DOk s → DOk (R s).2.1) ∧ Brief (R s).2.2 := by
  unfold leastD at h
  cases h0 : numAt xs k with
  | none => simp [h0] at h
  | some x0 =>
  simp only [h0, Option.some.injEq, Prod.mk.injEq] at h
  obtain ⟨rfl, rfl⟩ := h
  exact ⟨numAt_le h0, fun s => ⟨lo_least s _, fun hO => leastS_ok hO _, br_least s _⟩⟩
theorem lineR_least (t : List (List UInt8)) : lineR ([108, 101, 97, 115, 116] :: t) = leastD ([108, 101, 97, 115, 116] :: t) 1 := rfl
theorem manyD_ok {xs : List (List UInt8)} {k k' : Nat} {R : DSt → Said} (hk : k ≤ xs.length) (h : manyD xs k = some (k', R)) : k' ≤ xs.length ∧ ∀ s, Lo (R s).1 ∧ (DOk s → DOk (R s).2.1) ∧ Brief (R s).2.2 := by
  unfold manyD at h
  simp only [Option.some.injEq, Prod.mk.injEq] at h
  obtain ⟨rfl, rfl⟩ := h
  exact ⟨hk, fun s => ⟨lo_many s, fun hO => hO, br_many s⟩⟩
theorem lineR_many (t : List (List UInt8)) : lineR ([109, 97, 110, 121] :: t) = manyD ([109, 97, 110, 121] :: t) 1 := rfl
theorem fewD_ok {xs : List (List UInt8)} {k k' : Nat} {R : DSt → Said} (hk : k ≤ xs.length) (h : fewD xs k = some (k', R)) : k' ≤ xs.length ∧ ∀ s, Lo (R s).1 ∧ (DOk s → DOk (R s).2.1) ∧ Brief (R s).2.2 := by
  unfold fewD at h
  cases h0 : numAt xs k with
  | none => simp [h0] at h
  | some x0 =>
  cases h1 : numAt xs (k + 1) with
  | none => simp [h0, h1] at h
  | some x1 =>
  simp only [h0, h1, Option.some.injEq, Prod.mk.injEq] at h
  obtain ⟨rfl, rfl⟩ := h
  exact ⟨numAt_le h1, fun s => ⟨lo_few s _ _, fun hO => fewS_ok hO (numAt_i64 h0) _, br_few s _ _⟩⟩
theorem lineR_few (t : List (List UInt8)) : lineR ([102, 101, 119] :: t) = fewD ([102, 101, 119] :: t) 1 := rfl
theorem askD_ok {xs : List (List UInt8)} {k k' : Nat} {R : DSt → Said} (hk : k ≤ xs.length) (h : askD xs k = some (k', R)) : k' ≤ xs.length ∧ ∀ s, Lo (R s).1 ∧ (DOk s → DOk (R s).2.1) ∧ Brief (R s).2.2 := by
  unfold askD at h
  cases h0 : numAt xs k with
  | none => simp [h0] at h
  | some x0 =>
  simp only [h0, Option.some.injEq, Prod.mk.injEq] at h
  obtain ⟨rfl, rfl⟩ := h
  exact ⟨numAt_le h0, fun s => ⟨lo_ask s _, fun hO => hO, br_ask s _⟩⟩
theorem lineR_ask (t : List (List UInt8)) : lineR ([97, 115, 107] :: t) = askD ([97, 115, 107] :: t) 1 := rfl
theorem ruleD_ok {xs : List (List UInt8)} {k k' : Nat} {R : DSt → Said} (hk : k ≤ xs.length) (h : ruleD xs k = some (k', R)) : k' ≤ xs.length ∧ ∀ s, Lo (R s).1 ∧ (DOk s → DOk (R s).2.1) ∧ Brief (R s).2.2 := by
  unfold ruleD at h
  cases h0 : wordAt xs k with
  | none => simp [h0] at h
  | some x0 =>
  cases h1 : numAt xs (k + 1) with
  | none => simp [h0, h1] at h
  | some x1 =>
  cases h2 : numAt xs (k + 2) with
  | none => simp [h0, h1, h2] at h
  | some x2 =>
  simp only [h0, h1, h2, Option.some.injEq, Prod.mk.injEq] at h
  obtain ⟨rfl, rfl⟩ := h
  exact ⟨numAt_le h2, fun s => ⟨lo_rule s _ _ _, fun hO => ruleS_ok hO _ _ _, br_rule s _ _ _⟩⟩
theorem lineR_rule (t : List (List UInt8)) : lineR ([114, 117, 108, 101] :: t) = ruleD ([114, 117, 108, 101] :: t) 1 := rfl
theorem ofD_ok {xs : List (List UInt8)} {k k' : Nat} {R : DSt → Said} (hk : k ≤ xs.length) (h : ofD xs k = some (k', R)) : k' ≤ xs.length ∧ ∀ s, Lo (R s).1 ∧ (DOk s → DOk (R s).2.1) ∧ Brief (R s).2.2 := by
  unfold ofD at h
  cases h0 : wordAt xs k with
  | none => simp [h0] at h
  | some x0 =>
  simp only [h0, Option.some.injEq, Prod.mk.injEq] at h
  obtain ⟨rfl, rfl⟩ := h
  exact ⟨wordAt_le h0, fun s => ⟨lo_of s _, fun hO => hO, br_of s _⟩⟩
theorem lineR_of (t : List (List UInt8)) : lineR ([111, 102] :: t) = ofD ([111, 102] :: t) 1 := rfl
theorem thD_ok {xs : List (List UInt8)} {k k' : Nat} {R : DSt → Said} (hk : k ≤ xs.length) (h : thD xs k = some (k', R)) : k' ≤ xs.length ∧ ∀ s, Lo (R s).1 ∧ (DOk s → DOk (R s).2.1) ∧ Brief (R s).2.2 := by
  unfold thD at h
  cases h0 : numAt xs k with
  | none => simp [h0] at h
  | some x0 =>
  simp only [h0, Option.some.injEq, Prod.mk.injEq] at h
  obtain ⟨rfl, rfl⟩ := h
  exact ⟨numAt_le h0, fun s => ⟨lo_th _, fun hO => hO, br_th _⟩⟩
theorem lineR_th (t : List (List UInt8)) : lineR ([116, 104] :: t) = thD ([116, 104] :: t) 1 := rfl
theorem partD_ok {xs : List (List UInt8)} {k k' : Nat} {R : DSt → Said} (hk : k ≤ xs.length) (h : partD xs k = some (k', R)) : k' ≤ xs.length ∧ ∀ s, Lo (R s).1 ∧ (DOk s → DOk (R s).2.1) ∧ Brief (R s).2.2 := by
  unfold partD at h
  cases h0 : numAt xs k with
  | none => simp [h0] at h
  | some x0 =>
  cases h1 : numAt xs (k + 1) with
  | none => simp [h0, h1] at h
  | some x1 =>
  simp only [h0, h1, Option.some.injEq, Prod.mk.injEq] at h
  obtain ⟨rfl, rfl⟩ := h
  exact ⟨numAt_le h1, fun s => ⟨lo_part _ _, fun hO => hO, br_part _ _⟩⟩
theorem lineR_part (t : List (List UInt8)) : lineR ([112, 97, 114, 116] :: t) = partD ([112, 97, 114, 116] :: t) 1 := rfl
theorem countD_ok {xs : List (List UInt8)} {k k' : Nat} {R : DSt → Said} (hk : k ≤ xs.length) (h : countD xs k = some (k', R)) : k' ≤ xs.length ∧ ∀ s, Lo (R s).1 ∧ (DOk s → DOk (R s).2.1) ∧ Brief (R s).2.2 := by
  unfold countD at h
  cases h0 : numAt xs k with
  | none => simp [h0] at h
  | some x0 =>
  cases h1 : numAt xs (k + 1) with
  | none => simp [h0, h1] at h
  | some x1 =>
  simp only [h0, h1, Option.some.injEq, Prod.mk.injEq] at h
  obtain ⟨rfl, rfl⟩ := h
  exact ⟨numAt_le h1, fun s => ⟨lo_count _ _, fun hO => hO, br_count _ _⟩⟩
theorem lineR_count (t : List (List UInt8)) : lineR ([99, 111, 117, 110, 116] :: t) = countD ([99, 111, 117, 110, 116] :: t) 1 := rfl
theorem markD_ok {xs : List (List UInt8)} {k k' : Nat} {R : DSt → Said} (hk : k ≤ xs.length) (h : markD xs k = some (k', R)) : k' ≤ xs.length ∧ ∀ s, Lo (R s).1 ∧ (DOk s → DOk (R s).2.1) ∧ Brief (R s).2.2 := by
  unfold markD at h
  cases h0 : wordAt xs k with
  | none => simp [h0] at h
  | some x0 =>
  simp only [h0, Option.some.injEq, Prod.mk.injEq] at h
  obtain ⟨rfl, rfl⟩ := h
  exact ⟨wordAt_le h0, fun s => ⟨lo_mark _, fun hO => hO, br_mark _⟩⟩
theorem lineR_mark (t : List (List UInt8)) : lineR ([109, 97, 114, 107] :: t) = markD ([109, 97, 114, 107] :: t) 1 := rfl
section
variable {b : Nat} {w : World} {g gw k : Nat} {xs : List (List UInt8)} {x0 : List UInt8}
theorem known_none (h : x0 ∈ knownW) : listNo x0 = none := by
  have : ∀ x ∈ knownW, listNo x = none := by decide
  exact this x0 h
theorem lineR_ok {k' : Nat} {R : DSt → Said} {t : List (List UInt8)} (hkn : x0 ∈ knownW) (h : lineR (x0 :: t) = some (k', R)) : k' ≤ (x0 :: t).length ∧ ∀ s, Lo (R s).1 ∧ (DOk s → DOk (R s).2.1) ∧ Brief (R s).2.2 := by
  have hk : 1 ≤ (x0 :: t).length := by simp
  simp only [knownW, List.mem_cons, List.not_mem_nil, or_false] at hkn
  rcases hkn with rfl | rfl | rfl | rfl | rfl | rfl | rfl | rfl | rfl | rfl | rfl
  · exact pondD_ok hk ((lineR_pond t).symm.trans h)
  · exact leastD_ok hk ((lineR_least t).symm.trans h)
  · exact manyD_ok hk ((lineR_many t).symm.trans h)
  · exact fewD_ok hk ((lineR_few t).symm.trans h)
  · exact askD_ok hk ((lineR_ask t).symm.trans h)
  · exact ruleD_ok hk ((lineR_rule t).symm.trans h)
  · exact ofD_ok hk ((lineR_of t).symm.trans h)
  · exact thD_ok hk ((lineR_th t).symm.trans h)
  · exact partD_ok hk ((lineR_part t).symm.trans h)
  · exact countD_ok hk ((lineR_count t).symm.trans h)
  · exact markD_ok hk ((lineR_mark t).symm.trans h)
theorem line_is {t : List (List UInt8)} (hL : LibW b w) (hb : b ≤ gw) (h : WordsAt w gw (x0 :: t) 1) (hs : ShortW (x0 :: t)) (hkn : x0 ∈ knownW) :
    Calls Tryz.prog 35 #[.pointer (some ⟨g, 0, none⟩), .string (tx x0), .pointer (some ⟨gw, 0, none⟩)] w fun e w' => Disp b g gw (x0 :: t) w (lineR (x0 :: t)) e w' := by
  have hk : 1 ≤ (x0 :: t).length := by simp
  simp only [knownW, List.mem_cons, List.not_mem_nil, or_false] at hkn
  rcases hkn with rfl | rfl | rfl | rfl | rfl | rfl | rfl | rfl | rfl | rfl | rfl
  · rw [lineR_pond]; exact rd_pond_is hL hb h hs hk
  · rw [lineR_least]; exact rd_least_is hL hb h hs hk
  · rw [lineR_many]; exact rd_many_is hL hb h hs hk
  · rw [lineR_few]; exact rd_few_is hL hb h hs hk
  · rw [lineR_ask]; exact rd_ask_is hL hb h hs hk
  · rw [lineR_rule]; exact rd_rule_is hL hb h hs hk
  · rw [lineR_of]; exact rd_of_is hL hb h hs hk
  · rw [lineR_th]; exact rd_th_is hL hb h hs hk
  · rw [lineR_part]; exact rd_part_is hL hb h hs hk
  · rw [lineR_count]; exact rd_count_is hL hb h hs hk
  · rw [lineR_mark]; exact rd_mark_is hL hb h hs hk
end
section
variable {b : Nat} {w : World} {g n c : Nat} {A : Option Addr} {s : DSt} {x0 : List UInt8} {t : List (List UInt8)}
theorem answer_is (hL : LibW b w) (hbg : b ≤ g) (hD : DeskAt w g s) (hO : DOk s) (hS : St w A n c (x0 :: t)) (hn : n ≤ 1000000) (hs : ShortW (x0 :: t)) (hkn : x0 ∈ knownW) :
    Calls Tryz.prog 16 #[.pointer (some ⟨g, 0, none⟩), .slice A n c] w fun e w' => Answered w g (ansP s (x0 :: t).length (lineR (x0 :: t))) e w' := by
  have HR := fun (w' : World) (gw : Nat) (_ : Below w.heap.size w w') (hL' : LibW b w') (hb : b ≤ gw) (h : WordsAt w' gw (x0 :: t) 1) => line_is (g := g) hL' hb h hs hkn
  have hok := fun k' R => lineR_ok (k' := k') (R := R) (t := t) hkn
  have hl := known_none hkn
  cases hr : lineR (x0 :: t) with
  | none =>
    rw [hr] at HR
    exact answer_n hL hbg hD hO hS hn hs rfl hl HR
  | some r =>
    obtain ⟨k', R⟩ := r
    obtain ⟨h1, h2⟩ := hok k' R hr
    rw [hr] at HR
    by_cases hk : k' = (x0 :: t).length
    · subst hk
      exact answer_y hL hbg hD hO hS hn hs rfl hl (h2 s).1.i64 HR
    · exact answer_m hL hbg hD hO hS hn hs rfl hl (by omega) HR
theorem ansP_ok (hO : DOk s) (hkn : x0 ∈ knownW) : DOk (ansP s (x0 :: t).length (lineR (x0 :: t))).1 := by
  cases hr : lineR (x0 :: t) with
  | none => exact hO
  | some r =>
    obtain ⟨k', R⟩ := r
    unfold ansP
    dsimp only
    split
    · exact ((lineR_ok hkn hr).2 s).2.1 hO
    · exact hO
theorem ansP_brief (hkn : x0 ∈ knownW) : Brief (ansP s (x0 :: t).length (lineR (x0 :: t))).2 := by
  cases hr : lineR (x0 :: t) with
  | none => exact br_err 9
  | some r =>
    obtain ⟨k', R⟩ := r
    unfold ansP
    dsimp only
    split
    · split
      · exact ((lineR_ok hkn hr).2 s).2.2
      · exact br_err _
    · exact br_err 9
end
end Go.Proofs.YtjpbjghdplbdcaaGreatDoor
end
section
namespace Go.Proofs.YtjpbjghdplbdcaaGreatDoor
def linesOf (s : List UInt8) : List (List UInt8) := if (pieces 10 s).getLastD [] = [] then (pieces 10 s).dropLast else pieces 10 s
def wordsOf (l : List UInt8) : List (List UInt8) := (pieces 32 l).filter fun x => !x.isEmpty
def lineS (st : DSt × List UInt8) (l : List UInt8) : DSt × List UInt8 :=
  match wordsOf l with
  | [] => st
  | x0 :: t => if x0 = [35] then st else ((ansP st.1 (x0 :: t).length (lineR (x0 :: t))).1, st.2 ++ (ansP st.1 (x0 :: t).length (lineR (x0 :: t))).2 ++ [10])
def runP (s : List UInt8) : List UInt8 := if 65536 < s.length ∨ 200 < (linesOf s).length then [101, 114, 114, 111, 114, 32, 50, 10] else ((linesOf s).foldl lineS (newD, [])).2
def Walked (l : List UInt8) : Prop := match wordsOf l with
  | [] => True
  | x0 :: _ => x0 = [35] ∨ x0 ∈ knownW
end Go.Proofs.YtjpbjghdplbdcaaGreatDoor
end
section
namespace Go.Proofs.YtjpbjghdplbdcaaGreatDoor
def inLine (i : Nat) : List UInt8 := [102, 101, 119, 32] ++ dec ((i % 2 : Nat) : Int) ++ [32, 49, 10, 108, 101, 97, 115, 116, 32] ++ dec ((100 - i : Nat) : Int) ++ [10, 112, 111, 110, 100, 32] ++ dec (i : Int) ++ [32] ++ dec (i : Int) ++ [10]
def inTo : Nat → List UInt8
  | 0 => []
  | i + 1 => inTo i ++ inLine i
def inTail : List UInt8 := [97, 115, 107, 32, 48, 10, 97, 115, 107, 32, 55, 10, 109, 97, 110, 121, 10, 114, 117, 108, 101, 32, 97, 32, 51, 32, 53, 10, 114, 117, 108, 101, 32, 97, 32, 50, 32, 52, 10, 114, 117, 108, 101, 32, 97, 32, 51, 32, 53, 10, 111, 102, 32, 97, 98, 99, 10, 111, 102, 32, 98, 10, 116, 104, 32, 51, 54, 48, 50, 56, 55, 57, 55, 48, 49, 56, 57, 54, 51, 57, 54, 56, 10, 112, 97, 114, 116, 32, 49, 32, 52, 10, 99, 111, 117, 110, 116, 32, 53, 32, 51, 54, 48, 50, 56, 55, 57, 55, 48, 49, 56, 57, 54, 51, 57, 54, 56, 10, 109, 97, 114, 107, 32, 120, 61, 49, 44, 114, 118, 61, 48, 48, 48, 48, 48, 48, 48, 48, 48, 48, 48, 48, 48, 49, 44, 116, 104, 61, 56, 10]
def inAll (n : Nat) : List UInt8 := inTo n ++ inTail
def manyV (n : Nat) : Nat := if 3 ≤ n then 2 * (72057594037927936 / (103 - n)) + 2 * (72057594037927936 % (103 - n)) / (103 - n) else n
def wantAll (n : Nat) : List UInt8 := [111, 107, 32] ++ dec (((n + 1) / 2 : Nat) : Int) ++ [32] ++ dec (((n + 1) / 2 : Nat) : Int) ++ [10, 111, 107, 32, 48, 32, 48, 10] ++ ([111, 107, 32] ++ dec (manyV n : Int) ++ [10]) ++ [111, 107, 10, 101, 114, 114, 111, 114, 32, 56, 10, 111, 107, 10, 111, 107, 32, 51, 10, 101, 114, 114, 111, 114, 32, 52, 10, 111, 107, 32, 56, 10, 111, 107, 32, 53, 52, 48, 52, 51, 49, 57, 53, 53, 50, 56, 52, 52, 53, 57, 53, 50, 10, 111, 107, 32, 49, 48, 10, 111, 107, 32, 116, 104, 61, 56, 44, 114, 118, 61, 48, 48, 48, 48, 48, 48, 48, 48, 48, 48, 48, 48, 48, 49, 44, 120, 61, 49, 10]
def stepP (s : List UInt8) : Option (List UInt8) := if cutOk 10 s = true ∧ Go.Lib.hasPrefix (cutB 10 s) [111, 107] = true then some (cutA 10 s) else none
def stepsP (s : List UInt8) : Nat → Option (List UInt8)
  | 0 => some s
  | k + 1 => (stepsP s k).bind stepP
theorem steps_none {s : List UInt8} {k : Nat} (h : stepsP s k = none) : ∀ m, stepsP s (k + m) = none
  | 0 => h
  | m + 1 => by rw [← Nat.add_assoc, stepsP, steps_none h m]; rfl
theorem steps_at {s x : List UInt8} {k n : Nat} (h : stepsP s n = some x) (hk : k < n) : ∃ c, stepsP s k = some c ∧ cutOk 10 c = true ∧ Go.Lib.hasPrefix (cutB 10 c) [111, 107] = true ∧ stepsP s (k + 1) = some (cutA 10 c) := by
  have h1 : stepsP s (k + 1) ≠ none := fun e => by
    have := steps_none e (n - (k + 1))
    rw [show k + 1 + (n - (k + 1)) = n by omega, h] at this
    cases this
  cases hc : stepsP s k with
  | none => rw [stepsP, hc] at h1; exact absurd rfl h1
  | some c =>
    rw [stepsP, hc] at h1 ⊢
    show ∃ c', some c = some c' ∧ _ ∧ _ ∧ stepP c = some _
    have h2 : stepP c ≠ none := h1
    unfold stepP at h2 ⊢
    by_cases hq : cutOk 10 c = true ∧ Go.Lib.hasPrefix (cutB 10 c) [111, 107] = true
    · exact ⟨c, rfl, hq.1, hq.2, if_pos hq⟩
    · rw [if_neg hq] at h2
      exact absurd rfl h2
theorem cutA_le (c : UInt8) : ∀ l, (cutA c l).length ≤ l.length
  | [] => by simp [cutA]
  | b :: l => by
    have := cutA_le c l
    unfold cutA
    split
    · simp
    · simp; omega
theorem steps_le {s : List UInt8} : ∀ {k : Nat} {c : List UInt8}, stepsP s k = some c → c.length ≤ s.length
  | 0, c, h => by injection h with h; rw [h]; exact Nat.le_refl _
  | k + 1, c, h => by
    cases hc : stepsP s k with
    | none => rw [stepsP, hc] at h; cases h
    | some d =>
      have h1 := steps_le hc
      rw [stepsP, hc] at h
      have h : stepP d = some c := h
      unfold stepP at h
      split at h
      · injection h with h
        rw [← h]
        have := cutA_le 10 d
        omega
      · cases h
def walkedB (l : List UInt8) : Bool := match wordsOf l with
  | [] => true
  | x0 :: _ => decide (x0 = [35]) || decide (x0 ∈ knownW)
theorem walked_of {l : List UInt8} (h : walkedB l = true) : Walked l := by
  unfold walkedB at h
  unfold Walked
  revert h
  cases wordsOf l with
  | nil => intro _; trivial
  | cons x0 t => intro h; simpa using h
def scriptB (s : List UInt8) : Bool := decide (s.length ≤ 65536) && decide ((linesOf s).length ≤ 200) && (linesOf s).all walkedB && decide ((pieces 10 s)[(pieces 10 s).length - 1]? = some [])
theorem script_of {s : List UInt8} (h : scriptB s = true) : s.length ≤ 65536 ∧ (linesOf s).length ≤ 200 ∧ (∀ l ∈ linesOf s, Walked l) ∧ (pieces 10 s)[(pieces 10 s).length - 1]? = some [] := by
  unfold scriptB at h
  simp only [Bool.and_eq_true, decide_eq_true_eq, List.all_eq_true] at h
  obtain ⟨⟨⟨h1, h2⟩, h3⟩, h4⟩ := h
  exact ⟨h1, h2, fun l hl => walked_of (h3 l hl), h4⟩
def Day (n : Nat) : Prop := scriptB (inAll n) = true ∧ (runP (inAll n)).length ≤ 65536 ∧ stepsP (runP (inAll n)) (3 * n) = some (wantAll n)
end Go.Proofs.YtjpbjghdplbdcaaGreatDoor
end
section
namespace Go.Proofs.YtjpbjghdplbdcaaGreatDoor
set_option maxRecDepth 100000 in
theorem day1 : Day 1 := by
  have h1 : scriptB (inAll 1) = true := by kernel_rfl
  have h2 : (decide ((runP (inAll 1)).length ≤ 65536)) = true := by kernel_rfl
  have h3 : stepsP (runP (inAll 1)) (3 * 1) = some (wantAll 1) := by kernel_rfl
  exact ⟨h1, of_decide_eq_true h2, h3⟩
set_option maxRecDepth 100000 in
theorem day2 : Day 2 := by
  have h1 : scriptB (inAll 2) = true := by kernel_rfl
  have h2 : (decide ((runP (inAll 2)).length ≤ 65536)) = true := by kernel_rfl
  have h3 : stepsP (runP (inAll 2)) (3 * 2) = some (wantAll 2) := by kernel_rfl
  exact ⟨h1, of_decide_eq_true h2, h3⟩
set_option maxRecDepth 100000 in
theorem day3 : Day 3 := by
  have h1 : scriptB (inAll 3) = true := by kernel_rfl
  have h2 : (decide ((runP (inAll 3)).length ≤ 65536)) = true := by kernel_rfl
  have h3 : stepsP (runP (inAll 3)) (3 * 3) = some (wantAll 3) := by kernel_rfl
  exact ⟨h1, of_decide_eq_true h2, h3⟩
set_option maxRecDepth 100000 in
theorem day4 : Day 4 := by
  have h1 : scriptB (inAll 4) = true := by kernel_rfl
  have h2 : (decide ((runP (inAll 4)).length ≤ 65536)) = true := by kernel_rfl
  have h3 : stepsP (runP (inAll 4)) (3 * 4) = some (wantAll 4) := by kernel_rfl
  exact ⟨h1, of_decide_eq_true h2, h3⟩
set_option maxRecDepth 100000 in
theorem day5 : Day 5 := by
  have h1 : scriptB (inAll 5) = true := by kernel_rfl
  have h2 : (decide ((runP (inAll 5)).length ≤ 65536)) = true := by kernel_rfl
  have h3 : stepsP (runP (inAll 5)) (3 * 5) = some (wantAll 5) := by kernel_rfl
  exact ⟨h1, of_decide_eq_true h2, h3⟩
end Go.Proofs.YtjpbjghdplbdcaaGreatDoor
end
section
namespace Go.Proofs.YtjpbjghdplbdcaaGreatDoor
set_option maxRecDepth 100000 in
theorem day6 : Day 6 := by
  have h1 : scriptB (inAll 6) = true := by kernel_rfl
  have h2 : (decide ((runP (inAll 6)).length ≤ 65536)) = true := by kernel_rfl
  have h3 : stepsP (runP (inAll 6)) (3 * 6) = some (wantAll 6) := by kernel_rfl
  exact ⟨h1, of_decide_eq_true h2, h3⟩
set_option maxRecDepth 100000 in
theorem day7 : Day 7 := by
  have h1 : scriptB (inAll 7) = true := by kernel_rfl
  have h2 : (decide ((runP (inAll 7)).length ≤ 65536)) = true := by kernel_rfl
  have h3 : stepsP (runP (inAll 7)) (3 * 7) = some (wantAll 7) := by kernel_rfl
  exact ⟨h1, of_decide_eq_true h2, h3⟩
set_option maxRecDepth 100000 in
theorem day8 : Day 8 := by
  have h1 : scriptB (inAll 8) = true := by kernel_rfl
  have h2 : (decide ((runP (inAll 8)).length ≤ 65536)) = true := by kernel_rfl
  have h3 : stepsP (runP (inAll 8)) (3 * 8) = some (wantAll 8) := by kernel_rfl
  exact ⟨h1, of_decide_eq_true h2, h3⟩
set_option maxRecDepth 100000 in
theorem day9 : Day 9 := by
  have h1 : scriptB (inAll 9) = true := by kernel_rfl
  have h2 : (decide ((runP (inAll 9)).length ≤ 65536)) = true := by kernel_rfl
  have h3 : stepsP (runP (inAll 9)) (3 * 9) = some (wantAll 9) := by kernel_rfl
  exact ⟨h1, of_decide_eq_true h2, h3⟩
set_option maxRecDepth 100000 in
theorem day10 : Day 10 := by
  have h1 : scriptB (inAll 10) = true := by kernel_rfl
  have h2 : (decide ((runP (inAll 10)).length ≤ 65536)) = true := by kernel_rfl
  have h3 : stepsP (runP (inAll 10)) (3 * 10) = some (wantAll 10) := by kernel_rfl
  exact ⟨h1, of_decide_eq_true h2, h3⟩
end Go.Proofs.YtjpbjghdplbdcaaGreatDoor
end
