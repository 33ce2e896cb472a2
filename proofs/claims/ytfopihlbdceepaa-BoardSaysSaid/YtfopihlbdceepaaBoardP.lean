/-
  A board's rules, as a plain matter of lists: the order of texts; which rules may be; one more; which one is asked for. No program is named here.
-/
import Derived.Test.YtfopihlbdceepaaTableP
import Derived.Lib.Bytealg
namespace Go.Proofs.Ytfopihlbdceepaa
open Go.Op (bytesLess)

abbrev by8 (s : ByteArray) : List UInt8 := s.data.toList
theorem by8_inj {a b : ByteArray} (h : by8 a = by8 b) : a = b := ByteArray.ext (Array.toList_inj.1 h)
theorem bl_cons (a b : UInt8) (x y : List UInt8) : bytesLess (a :: x) (b :: y) = (decide (a < b) || (a == b && bytesLess x y)) := rfl
theorem bl_irr : ∀ l : List UInt8, bytesLess l l = false
  | [] => rfl
  | a :: l => by rw [bl_cons, bl_irr l]; simp
theorem bl_nil_r (x : List UInt8) : bytesLess x [] = false := by cases x <;> rfl
theorem bl_trans : ∀ {x y z : List UInt8}, bytesLess x y = true → bytesLess y z = true → bytesLess x z = true
  | x, [], z, h, _ => by rw [bl_nil_r] at h; cases h
  | x, b :: y, [], _, h => by cases h
  | [], b :: y, c :: z, _, _ => rfl
  | a :: x, b :: y, c :: z, h1, h2 => by
    rw [bl_cons] at h1 h2 ⊢
    simp only [Bool.or_eq_true, Bool.and_eq_true, decide_eq_true_eq, beq_iff_eq] at h1 h2 ⊢
    rcases h1 with h1 | ⟨rfl, h1⟩
    · rcases h2 with h2 | ⟨rfl, _⟩
      · exact .inl (by rw [UInt8.lt_iff_toNat_lt] at *; omega)
      · exact .inl h1
    · rcases h2 with h2 | ⟨rfl, h2⟩
      · exact .inl h2
      · exact .inr ⟨rfl, bl_trans h1 h2⟩
theorem bl_asymm {x y : List UInt8} (h : bytesLess x y = true) : bytesLess y x = false := by
  cases h2 : bytesLess y x with
  | false => rfl
  | true => have := bl_trans h h2; rw [bl_irr] at this; cases this
theorem bl_total : ∀ {x y : List UInt8}, bytesLess x y = false → bytesLess y x = false → x = y
  | [], [], _, _ => rfl
  | [], b :: y, h, _ => by cases h
  | a :: x, [], _, h => by cases h
  | a :: x, b :: y, h1, h2 => by
    rw [bl_cons] at h1 h2
    simp only [Bool.or_eq_false_iff, Bool.and_eq_false_iff, decide_eq_false_iff_not, beq_eq_false_iff_ne] at h1 h2
    have e : a = b := by
      apply UInt8.toNat_inj.1
      have h3 := h1.1
      have h4 := h2.1
      rw [UInt8.lt_iff_toNat_lt] at h3 h4
      omega
    subst e
    have h3 : bytesLess x y = false := by rcases h1.2 with h | h; exact absurd rfl h; exact h
    have h4 : bytesLess y x = false := by rcases h2.2 with h | h; exact absurd rfl h; exact h
    rw [bl_total h3 h4]
theorem cmp_is : ∀ (x y : List UInt8), Lib.compareBytes x y = if bytesLess x y = true then -1 else if x = y then 0 else 1
  | [], [] => rfl
  | [], b :: y => rfl
  | a :: x, [] => rfl
  | a :: x, b :: y => by
    unfold Lib.compareBytes
    rw [bl_cons, cmp_is x y]
    by_cases h : a < b
    · rw [if_pos h, decide_eq_true h]; rfl
    · rw [if_neg h, decide_eq_false h]
      by_cases h2 : b < a
      · have : a ≠ b := by intro e; subst e; rw [UInt8.lt_iff_toNat_lt] at h2; omega
        rw [if_pos h2, show (a == b) = false by simpa using this, if_neg (by simp), if_neg (by simp [this])]
      · have e : a = b := by
          apply UInt8.toNat_inj.1
          rw [UInt8.lt_iff_toNat_lt] at h h2
          omega
        subst e
        rw [if_neg h2]
        simp
/-- Is a text ahead of another? -/
def ltB (a b : ByteArray) : Bool := bytesLess (by8 a) (by8 b)
theorem ltB_irr (a : ByteArray) : ltB a a = false := bl_irr _
theorem ltB_trans {a b c : ByteArray} (h : ltB a b = true) (h2 : ltB b c = true) : ltB a c = true := bl_trans h h2
theorem ltB_asymm {a b : ByteArray} (h : ltB a b = true) : ltB b a = false := bl_asymm h
theorem ltB_total {a b : ByteArray} (h : ltB a b = false) (h2 : ltB b a = false) : a = b := by8_inj (bl_total h h2)
theorem ltB_ne {a b : ByteArray} (h : ltB a b = true) : a ≠ b := by rintro rfl; rw [ltB_irr] at h; cases h

abbrev Rul := ByteArray × Int × Int
def badByte (b : UInt8) : Bool := decide (b.toNat < 33 ∨ 126 < b.toNat)
def preBad (s : ByteArray) : Bool := decide (16 < s.size) || (by8 s).any badByte
def argBad (r : Rul) : Prop := r.2.1 < 0 ∨ 20 < r.2.1 ∨ r.2.2 < 1 ∨ 1000000000000 < r.2.2
instance (r : Rul) : Decidable (argBad r) := by unfold argBad; infer_instance
def oneErr (r : Rul) : Int := if preBad r.1 = true then 3 else if argBad r then 1 else 0
def rAt (l : List Rul) (i : Nat) : Rul := l.getD i (ByteArray.empty, 0, 0)
theorem rAt_of {l : List Rul} {i : Nat} {r : Rul} (h : l[i]? = some r) : rAt l i = r := by simp [rAt, List.getD, h]
def rlStep (l : List Rul) (i : Nat) : Int := if oneErr (rAt l i) ≠ 0 then oneErr (rAt l i) else if 0 < i ∧ ltB (rAt l (i - 1)).1 (rAt l i).1 = false then 3 else 0
def rlErr (n : Nat) (l : List Rul) : Int := if 16 < n then 2 else faultTo (rlStep l) n
abbrev UpR (l : List Rul) : Prop := l.Pairwise fun a b => ltB a.1 b.1 = true
structure RlOk (l : List Rul) : Prop where
  len : l.length ≤ 16
  up : UpR l
  one : ∀ r ∈ l, oneErr r = 0
theorem rlErr_ok {n : Nat} {l : List Rul} (hl : l.length = n) (h : rlErr n l = 0) : RlOk l := by
  unfold rlErr at h
  by_cases h1 : 16 < n
  · rw [if_pos h1] at h; omega
  · rw [if_neg h1] at h
    have h3 := faultTo_all n h
    have hd : ∀ i, i < n → oneErr (rAt l i) = 0 := by
      intro i hi
      have := h3 i hi
      unfold rlStep at this
      by_cases hc : oneErr (rAt l i) ≠ 0
      · rw [if_pos hc] at this; exact absurd this hc
      · exact Decidable.not_not.1 hc
    have hs : ∀ i, i + 1 < n → ltB (rAt l i).1 (rAt l (i + 1)).1 = true := by
      intro i hi
      have := h3 (i + 1) hi
      unfold rlStep at this
      rw [if_neg (by rw [hd (i + 1) hi]; simp), Nat.add_sub_cancel] at this
      cases hc : ltB (rAt l i).1 (rAt l (i + 1)).1 with
      | true => rfl
      | false => rw [if_pos ⟨by omega, hc⟩] at this; omega
    have hlt : ∀ d i, i + d + 1 < n → ltB (rAt l i).1 (rAt l (i + d + 1)).1 = true := by
      intro d
      induction d with
      | zero => exact fun i hi => hs i hi
      | succ d ih => intro i hi; exact ltB_trans (ih i (by omega)) (hs (i + d + 1) (by omega))
    refine ⟨by omega, ?_, fun r hr => ?_⟩
    · rw [UpR, List.pairwise_iff_getElem]
      intro i j hi hj hij
      have := hlt (j - i - 1) i (by omega)
      rw [show i + (j - i - 1) + 1 = j by omega, rAt_of (List.getElem?_eq_getElem hi), rAt_of (List.getElem?_eq_getElem hj)] at this
      exact this
    · obtain ⟨i, hi⟩ := List.getElem?_of_mem hr
      have := hd i (by rw [← hl]; exact (List.getElem?_eq_some_iff.1 hi).1)
      rwa [rAt_of hi] at this
theorem rlErr_of {n : Nat} {l : List Rul} (hl : l.length = n) (h : RlOk l) : rlErr n l = 0 := by
  have hf : ∀ k, k ≤ n → faultTo (rlStep l) k = 0 := by
    intro k
    induction k with
    | zero => exact fun _ => rfl
    | succ k ih =>
      intro hk
      refine faultTo_next (ih (by omega)) ?_
      have hkl : k < l.length := by omega
      have e := rAt_of (List.getElem?_eq_getElem hkl)
      have h1 := h.one _ (List.getElem_mem hkl)
      unfold rlStep
      rw [e, if_neg (by rw [h1]; simp)]
      by_cases h0 : 0 < k
      · have h2 := (List.pairwise_iff_getElem.1 h.up) (k - 1) k (by omega) hkl (by omega)
        have e2 := rAt_of (List.getElem?_eq_getElem (l := l) (i := k - 1) (by omega))
        rw [if_neg (by rw [e2, h2]; simp)]
      · rw [if_neg (fun h => h0 h.1)]
  have := h.len
  unfold rlErr
  rw [if_neg (by omega)]
  exact hf n (Nat.le_refl _)
/-- Is r newer than s? -/
def newer (r s : Rul) : Bool := decide (s.2.2 < r.2.2 ∨ r.2.2 = s.2.2 ∧ s.2.1 < r.2.1)
/-- A rule more: the newer one of two that begin alike. -/
def putR (r : Rul) : List Rul → List Rul
  | [] => [r]
  | s :: l => if ltB s.1 r.1 = true then s :: putR r l else if s.1 = r.1 then (if newer r s = true then r else s) :: l else r :: s :: l
/-- What begins as key, if there is one. -/
def look (key : ByteArray) : List Rul → Option Rul
  | [] => none
  | s :: l => if s.1 = key then some s else look key l
theorem look_mem {key : ByteArray} : ∀ {l : List Rul} {s : Rul}, look key l = some s → s ∈ l ∧ s.1 = key
  | [], _, h => by cases h
  | t :: l, s, h => by
    unfold look at h
    split at h
    · injection h with h; subst h; exact ⟨List.mem_cons_self, by assumption⟩
    · obtain ⟨h1, h2⟩ := look_mem h; exact ⟨List.mem_cons_of_mem _ h1, h2⟩
theorem look_none {key : ByteArray} : ∀ {l : List Rul}, look key l = none → ∀ s ∈ l, s.1 ≠ key
  | [], _, _, h => by cases h
  | t :: l, h, s, hs => by
    unfold look at h
    split at h
    · cases h
    · rcases List.mem_cons.1 hs with rfl | hs
      · assumption
      · exact look_none h s hs
theorem look_of {key : ByteArray} : ∀ {l : List Rul}, UpR l → ∀ {s : Rul}, s ∈ l → s.1 = key → look key l = some s
  | t :: l, hu, s, hs, hk => by
    rw [UpR, List.pairwise_cons] at hu
    unfold look
    rcases List.mem_cons.1 hs with rfl | hs
    · rw [if_pos hk]
    · rw [if_neg (fun e => by have := hu.1 s hs; rw [e, hk, ltB_irr] at this; cases this)]
      exact look_of hu.2 hs hk
theorem putR_keys (r : Rul) : ∀ (l : List Rul) (k : ByteArray), k ∈ (putR r l).map (·.1) ↔ k = r.1 ∨ k ∈ l.map (·.1)
  | [], k => by simp [putR]
  | s :: l, k => by
    unfold putR
    split
    · rw [List.map_cons, List.mem_cons, putR_keys r l k, List.map_cons, List.mem_cons]
      constructor
      · rintro (h | h | h) <;> simp [h]
      · rintro (h | h | h) <;> simp [h]
    · split
      · rename_i e
        split <;> simp [e]
      · simp
theorem putR_mem {r : Rul} : ∀ {l : List Rul} {s : Rul}, s ∈ putR r l → s = r ∨ s ∈ l
  | [], s, h => by simpa [putR] using h
  | t :: l, s, h => by
    unfold putR at h
    split at h
    · rcases List.mem_cons.1 h with rfl | h
      · exact .inr List.mem_cons_self
      · rcases putR_mem h with h | h
        · exact .inl h
        · exact .inr (List.mem_cons_of_mem _ h)
    · split at h
      · rcases List.mem_cons.1 h with h | h
        · split at h
          · exact .inl h
          · exact .inr (by rw [h]; exact List.mem_cons_self)
        · exact .inr (List.mem_cons_of_mem _ h)
      · rcases List.mem_cons.1 h with h | h
        · exact .inl h
        · exact .inr h
theorem putR_up {r : Rul} : ∀ {l : List Rul}, UpR l → UpR (putR r l)
  | [], _ => by simp [putR, UpR]
  | s :: l, h => by
    rw [UpR, List.pairwise_cons] at h
    unfold putR
    split
    · rename_i hs
      rw [UpR, List.pairwise_cons]
      refine ⟨fun z hz => ?_, putR_up h.2⟩
      have hz1 : z.1 ∈ (putR r l).map (·.1) := List.mem_map.2 ⟨z, hz, rfl⟩
      rcases (putR_keys r l z.1).1 hz1 with e | e
      · rw [e]; exact hs
      · obtain ⟨q, hq, e⟩ := List.mem_map.1 e
        rw [← e]; exact h.1 q hq
    · split
      · rename_i h1 h2
        rw [UpR, List.pairwise_cons]
        refine ⟨fun z hz => ?_, h.2⟩
        split
        · rw [← h2]; exact h.1 z hz
        · exact h.1 z hz
      · rename_i h1 h2
        have hrs : ltB r.1 s.1 = true := by
          cases hc : ltB r.1 s.1 with
          | true => rfl
          | false => exact absurd (ltB_total (Bool.eq_false_iff.2 h1) hc) h2
        rw [UpR, List.pairwise_cons, List.pairwise_cons]
        refine ⟨fun z hz => ?_, h⟩
        rcases List.mem_cons.1 hz with rfl | e
        · exact hrs
        · exact ltB_trans hrs (h.1 z e)
theorem putR_len (r : Rul) : ∀ l : List Rul, l.length ≤ (putR r l).length ∧ (putR r l).length ≤ l.length + 1
  | [] => by simp [putR]
  | s :: l => by
    unfold putR
    have := putR_len r l
    split
    · simp; omega
    · split <;> simp
/-- Where a text stands among the rules. -/
def posR (key : ByteArray) (l : List Rul) : Nat := (l.takeWhile fun s => ltB s.1 key).length
theorem posR_le (key : ByteArray) (l : List Rul) : posR key l ≤ l.length := (List.takeWhile_prefix _).length_le
theorem posR_less {key : ByteArray} : ∀ {l : List Rul}, UpR l → ∀ {h : Nat} {s : Rul}, l[h]? = some s → ltB s.1 key = decide (h < posR key l)
  | [], _, h, s, hs => by simp at hs
  | t :: l, hu, h, s, hs => by
    rw [UpR, List.pairwise_cons] at hu
    unfold posR
    rw [List.takeWhile_cons]
    cases ht : ltB t.1 key with
    | true =>
      cases h with
      | zero => simp at hs; subst hs; simp [ht]
      | succ h =>
        rw [List.getElem?_cons_succ] at hs
        rw [posR_less hu.2 hs]
        exact decide_eq_decide.2 (by simp [posR])
    | false =>
      cases h with
      | zero => simp at hs; subst hs; simp [ht]
      | succ h =>
        rw [List.getElem?_cons_succ] at hs
        have h1 := hu.1 s (List.mem_of_getElem? hs)
        cases hc : ltB s.1 key with
        | false => simp
        | true => have := ltB_trans h1 hc; rw [ht] at this; cases this
theorem putR_at (r : Rul) : ∀ {l : List Rul}, UpR l → putR r l = match l[posR r.1 l]? with
    | some s => if s.1 = r.1 then (if newer r s = true then l.set (posR r.1 l) r else l) else l.take (posR r.1 l) ++ r :: l.drop (posR r.1 l)
    | none => l.take (posR r.1 l) ++ r :: l.drop (posR r.1 l)
  | [], _ => by simp [putR, posR]
  | s :: l, hu => by
    rw [UpR, List.pairwise_cons] at hu
    have ih := putR_at r hu.2
    unfold putR
    cases hs : ltB s.1 r.1 with
    | true =>
      have hp : posR r.1 (s :: l) = posR r.1 l + 1 := by simp [posR, List.takeWhile_cons, hs]
      rw [if_pos rfl, hp, List.getElem?_cons_succ, ih]
      cases l[posR r.1 l]? with
      | none => simp
      | some t =>
        dsimp only
        split
        · split <;> simp
        · simp
    | false =>
      have hp : posR r.1 (s :: l) = 0 := by simp [posR, List.takeWhile_cons, hs]
      rw [if_neg (by simp), hp]
      dsimp only [List.getElem?_cons_zero]
      split
      · split <;> simp
      · simp
theorem look_at (r : ByteArray) : ∀ {l : List Rul}, UpR l → look r l = match l[posR r l]? with
    | some s => if s.1 = r then some s else none
    | none => none
  | [], _ => by simp [look, posR]
  | s :: l, hu => by
    rw [UpR, List.pairwise_cons] at hu
    have ih := look_at r hu.2
    unfold look
    cases hs : ltB s.1 r with
    | true =>
      have hp : posR r (s :: l) = posR r l + 1 := by simp [posR, List.takeWhile_cons, hs]
      rw [if_neg (ltB_ne hs), hp, List.getElem?_cons_succ, ih]
    | false =>
      have hp : posR r (s :: l) = 0 := by simp [posR, List.takeWhile_cons, hs]
      rw [hp]
      dsimp only [List.getElem?_cons_zero]
      split
      · rfl
      · rename_i hne
        cases hl : look r l with
        | none => rfl
        | some t =>
          obtain ⟨h1, h2⟩ := look_mem hl
          have h3 := hu.1 t h1
          rw [h2] at h3
          rw [h3] at hs; cases hs
/-- Where nothing is newer, nothing turns. -/
theorem putR_old {r : Rul} : ∀ {l : List Rul}, UpR l → ∀ {s : Rul}, look r.1 l = some s → newer r s = false → putR r l = l := by
  intro l hu s hl hn
  rw [putR_at r hu]
  rw [look_at r.1 hu] at hl
  cases h : l[posR r.1 l]? with
  | none => rw [h] at hl; cases hl
  | some t =>
    rw [h] at hl
    dsimp only at hl ⊢
    split at hl
    · injection hl with hl
      subst hl
      rw [if_pos (by assumption), if_neg (by rw [hn]; simp)]
    · cases hl
/-- What is found behind the put. -/
theorem look_put {r : Rul} : ∀ {l : List Rul}, UpR l → (∀ s, look r.1 l = some s → newer r s = true) → ∀ k, look k (putR r l) = if k = r.1 then some r else look k l
  | [], _, _, k => by
    unfold putR look look
    by_cases e : k = r.1
    · rw [if_pos e, if_pos e.symm]
    · rw [if_neg e, if_neg (Ne.symm e)]
  | s :: l, hu, hn, k => by
    rw [UpR, List.pairwise_cons] at hu
    unfold putR
    split
    · rename_i hs
      have hne := ltB_ne hs
      have ih := look_put hu.2 (fun t ht => hn t (by unfold look; rw [if_neg hne]; exact ht)) k
      unfold look
      by_cases e : s.1 = k
      · rw [if_pos e, if_pos e, if_neg (by rw [← e]; exact hne)]
      · rw [if_neg e, if_neg e]; exact ih
    · split
      · rename_i h1 h2
        have := hn s (by unfold look; rw [if_pos h2])
        rw [if_pos this]
        unfold look
        by_cases e : r.1 = k
        · rw [if_pos e, if_pos e.symm]
        · rw [if_neg e, if_neg (Ne.symm e), if_neg (by rw [h2]; exact e)]
      · rename_i h1 h2
        show (if r.1 = k then some r else look k (s :: l)) = _
        by_cases e : r.1 = k
        · rw [if_pos e, if_pos e.symm]
        · rw [if_neg e, if_neg (Ne.symm e)]
/-- All of them. -/
def joinR (m l : List Rul) : List Rul := l.foldl (fun a r => putR r a) m
theorem joinR_up : ∀ {l m : List Rul}, UpR m → UpR (joinR m l)
  | [], _, h => h
  | r :: l, m, h => joinR_up (l := l) (putR_up h)
theorem joinR_len : ∀ (l m : List Rul), m.length ≤ (joinR m l).length
  | [], _ => Nat.le_refl _
  | r :: l, m => Nat.le_trans (putR_len r m).1 (joinR_len l (putR r m))
theorem joinR_mem : ∀ {l m : List Rul} {s : Rul}, s ∈ joinR m l → s ∈ m ∨ s ∈ l
  | [], m, s, h => .inl h
  | r :: l, m, s, h => by
    rcases joinR_mem (l := l) (m := putR r m) h with h | h
    · rcases putR_mem h with rfl | h
      · exact .inr List.mem_cons_self
      · exact .inl h
    · exact .inr (List.mem_cons_of_mem _ h)
theorem joinR_take {l m : List Rul} {k : Nat} {r : Rul} (h : l[k]? = some r) : joinR m (l.take (k + 1)) = putR r (joinR m (l.take k)) := by
  rw [List.take_add_one, h]
  simp [joinR, List.foldl_append]
theorem joinR_append (a b m : List Rul) : joinR m (a ++ b) = joinR (joinR m a) b := by simp [joinR, List.foldl_append]
theorem putR_last {r : Rul} : ∀ {l : List Rul}, (∀ s ∈ l, ltB s.1 r.1 = true) → putR r l = l ++ [r]
  | [], _ => rfl
  | s :: l, h => by
    unfold putR
    rw [if_pos (h s List.mem_cons_self), putR_last (fun t ht => h t (List.mem_cons_of_mem _ ht))]
    rfl
theorem joinR_self : ∀ {l m : List Rul}, UpR (m ++ l) → joinR m l = m ++ l
  | [], m, _ => by simp [joinR]
  | r :: l, m, h => by
    have h1 : putR r m = m ++ [r] := putR_last fun s hs => (List.pairwise_append.1 h).2.2 s hs r List.mem_cons_self
    show joinR (putR r m) l = _
    rw [h1, joinR_self (by rw [List.append_assoc]; exact h), List.append_assoc]
    rfl
/-- Two rising lists of the same rules are the same. -/
theorem upR_ext : ∀ {a b : List Rul}, UpR a → UpR b → (∀ r, r ∈ a ↔ r ∈ b) → a = b
  | [], [], _, _, _ => rfl
  | [], q :: b, _, _, h => by have := (h q).2 List.mem_cons_self; cases this
  | p :: a, [], _, _, h => by have := (h p).1 List.mem_cons_self; cases this
  | p :: a, q :: b, ha, hb, h => by
    rw [UpR, List.pairwise_cons] at ha hb
    have e : p = q := by
      have hp := (h p).1 List.mem_cons_self
      have hq := (h q).2 List.mem_cons_self
      rcases List.mem_cons.1 hp with e | e
      · exact e
      · rcases List.mem_cons.1 hq with e2 | e2
        · exact e2.symm
        · have h1 := hb.1 p e
          have h2 := ha.1 q e2
          rw [ltB_asymm h1] at h2; cases h2
    subst e
    congr 1
    refine upR_ext ha.2 hb.2 fun r => ⟨fun hr => ?_, fun hr => ?_⟩
    · have := (h r).1 (List.mem_cons_of_mem _ hr)
      rcases List.mem_cons.1 this with rfl | this
      · have := ha.1 r hr; rw [ltB_irr] at this; cases this
      · exact this
    · have := (h r).2 (List.mem_cons_of_mem _ hr)
      rcases List.mem_cons.1 this with rfl | this
      · have := hb.1 r hr; rw [ltB_irr] at this; cases this
      · exact this
end Go.Proofs.Ytfopihlbdceepaa
