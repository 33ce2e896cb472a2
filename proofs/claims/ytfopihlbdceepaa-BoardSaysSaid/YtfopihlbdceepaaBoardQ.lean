/-
  What Put, Join and Ask of a board hand back, as a plain matter of lists. No program is named here.
-/
import Derived.Test.YtfopihlbdceepaaBoardP
namespace Go.Proofs.Ytfopihlbdceepaa

theorem newer_asymm {r s : Rul} (h : newer r s = true) : newer s r = false := by
  unfold newer at h ⊢
  have := of_decide_eq_true h
  exact decide_eq_false (by omega)
theorem newer_or {r s : Rul} (h : r.1 = s.1) : newer r s = true ∨ newer s r = true ∨ r = s := by
  unfold newer
  by_cases h1 : s.2.2 < r.2.2 ∨ r.2.2 = s.2.2 ∧ s.2.1 < r.2.1
  · exact .inl (decide_eq_true h1)
  · by_cases h2 : r.2.2 < s.2.2 ∨ s.2.2 = r.2.2 ∧ r.2.1 < s.2.1
    · exact .inr (.inl (decide_eq_true h2))
    · refine .inr (.inr ?_)
      obtain ⟨a, b, c⟩ := r
      obtain ⟨a2, b2, c2⟩ := s
      dsimp only at h h1 h2
      rw [h, show b = b2 by omega, show c = c2 by omega]
def oldR (r : Rul) (l : List Rul) : Bool := match look r.1 l with | some s => newer s r | none => false
def jo (m : List Rul) : Int × List Rul := if 16 < m.length then (2, []) else (0, m)
/-- What Put answers, of rules that may be. -/
def putOut (r : Rul) (l : List Rul) : Int × List Rul := if oneErr r ≠ 0 then (oneErr r, []) else if oldR r l = true then (8, []) else jo (putR r l)
section
variable {l : List Rul} {r s : Rul}
theorem put_bad (h : oneErr r ≠ 0) : putOut r l = (oneErr r, []) := by unfold putOut; rw [if_pos h]
theorem put_old (h1 : oneErr r = 0) (hs : look r.1 l = some s) (hn : newer s r = true) : putOut r l = (8, []) := by
  unfold putOut oldR
  rw [if_neg (by rw [h1]; simp), hs, if_pos hn]
theorem put_new (hl : RlOk l) (h1 : oneErr r = 0) (hp : l[posR r.1 l]? = some s) (he : s.1 = r.1) (hn : newer r s = true) : putOut r l = (0, l.set (posR r.1 l) r) := by
  have hk : look r.1 l = some s := by rw [look_at r.1 hl.up, hp]; dsimp only; rw [if_pos he]
  have hm := hl.len
  have ho : oldR r l = false := by unfold oldR; rw [hk]; exact newer_asymm hn
  unfold putOut jo
  rw [if_neg (by rw [h1]; simp), ho, if_neg (by simp)]
  have e : putR r l = l.set (posR r.1 l) r := by
    rw [putR_at r hl.up, hp]
    dsimp only
    rw [if_pos he, if_pos hn]
  rw [e, if_neg (by rw [List.length_set]; omega)]
theorem put_same (hl : RlOk l) (h1 : oneErr r = 0) (hp : l[posR r.1 l]? = some r) : putOut r l = (0, l) := by
  have hk : look r.1 l = some r := by rw [look_at r.1 hl.up, hp]; dsimp only; rw [if_pos rfl]
  have hm := hl.len
  have hn : newer r r = false := by
    cases h : newer r r with
    | false => rfl
    | true => have := newer_asymm h; rw [h] at this; exact this
  have ho : oldR r l = false := by unfold oldR; rw [hk]; exact hn
  unfold putOut jo
  rw [if_neg (by rw [h1]; simp), ho, if_neg (by simp), putR_old hl.up hk hn, if_neg (by omega)]
theorem putR_none (hu : UpR l) (hk : look r.1 l = none) : putR r l = l.take (posR r.1 l) ++ r :: l.drop (posR r.1 l) := by
  rw [putR_at r hu]
  rw [look_at r.1 hu] at hk
  cases h : l[posR r.1 l]? with
  | none => rfl
  | some s =>
    rw [h] at hk
    dsimp only at hk ⊢
    split at hk
    · cases hk
    · rw [if_neg (by assumption)]
theorem put_in (hl : RlOk l) (h1 : oneErr r = 0) (hk : look r.1 l = none) (hn : l.length < 16) : putOut r l = (0, l.take (posR r.1 l) ++ r :: l.drop (posR r.1 l)) := by
  have hp := posR_le r.1 l
  have ho : oldR r l = false := by unfold oldR; rw [hk]
  unfold putOut jo
  rw [if_neg (by rw [h1]; simp), ho, if_neg (by simp), putR_none hl.up hk, if_neg (by rw [List.length_append, List.length_take, List.length_cons, List.length_drop]; omega)]
theorem put_full (hl : RlOk l) (h1 : oneErr r = 0) (hk : look r.1 l = none) (hn : l.length = 16) : putOut r l = (2, []) := by
  have hp := posR_le r.1 l
  have ho : oldR r l = false := by unfold oldR; rw [hk]
  unfold putOut jo
  rw [if_neg (by rw [h1]; simp), ho, if_neg (by simp), putR_none hl.up hk, if_pos (by rw [List.length_append, List.length_take, List.length_cons, List.length_drop]; omega)]
theorem putR_ok (hl : RlOk l) (h1 : oneErr r = 0) (hn : ¬ 16 < (putR r l).length) : RlOk (putR r l) :=
  ⟨by omega, putR_up hl.up, fun s hs => by
    rcases putR_mem hs with rfl | hs
    · exact h1
    · exact hl.one s hs⟩
end
theorem RlOk.nil : RlOk [] := ⟨by simp, List.Pairwise.nil, fun _ h => by cases h⟩
theorem RlOk.small {l : List Rul} (h : RlOk l) {r : Rul} (hr : r ∈ l) : r.1.size ≤ 16 ∧ 0 ≤ r.2.1 := by
  have h1 := h.one r hr
  unfold oneErr at h1
  by_cases hp : preBad r.1 = true
  · rw [if_pos hp] at h1; omega
  · rw [if_neg hp] at h1
    by_cases ha : argBad r
    · rw [if_pos ha] at h1; omega
    · constructor
      · unfold preBad at hp
        simp only [Bool.or_eq_true, decide_eq_true_eq, not_or] at hp
        omega
      · unfold argBad at ha
        omega
/-- One more of Join's rounds. -/
theorem join_step {a b : List Rul} {k : Nat} {r : Rul} (hok : RlOk (joinR a (b.take k))) (hb : RlOk b) (hr : b[k]? = some r) :
    (putOut r (joinR a (b.take k)) = (2, []) ∧ jo (joinR a b) = (2, [])) ∨ (putOut r (joinR a (b.take k)) = (8, []) ∧ joinR a (b.take (k + 1)) = joinR a (b.take k)) ∨ (putOut r (joinR a (b.take k)) = (0, joinR a (b.take (k + 1))) ∧ RlOk (joinR a (b.take (k + 1)))) := by
  have h1 := hb.one r (List.mem_of_getElem? hr)
  have hj := joinR_take (m := a) hr
  unfold putOut
  rw [if_neg (by rw [h1]; simp)]
  cases ho : oldR r (joinR a (b.take k)) with
  | true =>
    rw [if_pos rfl]
    refine .inr (.inl ⟨rfl, ?_⟩)
    unfold oldR at ho
    cases hk : look r.1 (joinR a (b.take k)) with
    | none => rw [hk] at ho; cases ho
    | some s =>
      rw [hk] at ho
      rw [hj]
      exact putR_old hok.up hk (newer_asymm ho)
  | false =>
    rw [if_neg (by simp), ← hj]
    unfold jo
    by_cases h16 : 16 < (joinR a (b.take (k + 1))).length
    · refine .inl ⟨if_pos h16, if_pos ?_⟩
      have h2 : joinR a b = joinR (joinR a (b.take (k + 1))) (b.drop (k + 1)) := by rw [← joinR_append, List.take_append_drop]
      have := joinR_len (b.drop (k + 1)) (joinR a (b.take (k + 1)))
      rw [h2]
      omega
    · refine .inr (.inr ⟨if_neg h16, ?_⟩)
      rw [hj] at h16 ⊢
      exact putR_ok hok h1 h16

/-- Does a text begin so? -/
def hasPre (s p : ByteArray) : Bool := decide (p.size ≤ s.size) && ((s.extract 0 p.size).toList == p.toList)
theorem hasPre_iff (s p : ByteArray) : hasPre s p = true ↔ p.size ≤ s.size ∧ s.extract 0 p.size = p := by
  unfold hasPre
  rw [Bool.and_eq_true, decide_eq_true_eq, beq_iff_eq, ByteArray.toList_eq, ByteArray.toList_eq]
  exact ⟨fun ⟨a, b⟩ => ⟨a, by8_inj b⟩, fun ⟨a, b⟩ => ⟨a, by rw [b]⟩⟩
/-- The longest beginning that has a rule, of n bytes at most. -/
def askDown (l : List Rul) (name : ByteArray) : Nat → Int
  | 0 => match look (name.extract 0 0) l with | some r => r.2.1 | none => -1
  | n + 1 => match look (name.extract 0 (n + 1)) l with | some r => r.2.1 | none => askDown l name n
/-- The best of the first k. -/
structure Best (l : List Rul) (name : ByteArray) (k : Nat) (o : Option Nat) : Prop where
  none_ : o = none → ∀ j r, j < k → l[j]? = some r → hasPre name r.1 = false
  some_ : ∀ i, o = some i → i < k ∧ ∃ r, l[i]? = some r ∧ hasPre name r.1 = true ∧ ∀ j q, j < k → l[j]? = some q → hasPre name q.1 = true → q.1.size ≤ r.1.size
theorem Best.start (l : List Rul) (name : ByteArray) : Best l name 0 none := ⟨fun _ _ _ h => absurd h (by omega), fun _ h => by cases h⟩
section
variable {l : List Rul} {name : ByteArray} {k i : Nat} {o : Option Nat} {r s : Rul}
theorem Best.skip (h : Best l name k o) (hr : l[k]? = some r) (hp : hasPre name r.1 = false) : Best l name (k + 1) o := by
  refine ⟨fun ho j q hj hq => ?_, fun i ho => ?_⟩
  · by_cases e : j = k
    · subst e; rw [hr] at hq; injection hq with hq; subst hq; exact hp
    · exact h.none_ ho j q (by omega) hq
  · obtain ⟨h1, t, h2, h3, h4⟩ := h.some_ i ho
    refine ⟨by omega, t, h2, h3, fun j q hj hq hpq => ?_⟩
    by_cases e : j = k
    · subst e; rw [hr] at hq; injection hq with hq; subst hq; rw [hp] at hpq; cases hpq
    · exact h4 j q (by omega) hq hpq
theorem Best.keep (h : Best l name k (some i)) (hr : l[k]? = some r) (hi : l[i]? = some s) (hle : r.1.size ≤ s.1.size) : Best l name (k + 1) (some i) := by
  refine ⟨fun ho => (by cases ho), fun i' ho => ?_⟩
  injection ho with ho
  subst ho
  obtain ⟨h1, t, h2, h3, h4⟩ := h.some_ i rfl
  refine ⟨by omega, t, h2, h3, fun j q hj hq hpq => ?_⟩
  rw [hi] at h2
  injection h2 with h2
  subst h2
  by_cases e : j = k
  · subst e; rw [hr] at hq; injection hq with hq; subst hq; exact hle
  · exact h4 j q (by omega) hq hpq
theorem Best.first (h : Best l name k none) (hr : l[k]? = some r) (hp : hasPre name r.1 = true) : Best l name (k + 1) (some k) := by
  refine ⟨fun ho => (by cases ho), fun i' ho => ?_⟩
  injection ho with ho
  subst ho
  refine ⟨by omega, r, hr, hp, fun j q hj hq hpq => ?_⟩
  by_cases e : j = k
  · subst e; rw [hr] at hq; injection hq with hq; subst hq; exact Nat.le_refl _
  · rw [h.none_ rfl j q (by omega) hq] at hpq; cases hpq
theorem Best.more (h : Best l name k (some i)) (hr : l[k]? = some r) (hp : hasPre name r.1 = true) (hi : l[i]? = some s) (hlt : s.1.size < r.1.size) : Best l name (k + 1) (some k) := by
  refine ⟨fun ho => (by cases ho), fun i' ho => ?_⟩
  injection ho with ho
  subst ho
  obtain ⟨h1, t, h2, h3, h4⟩ := h.some_ i rfl
  rw [hi] at h2
  injection h2 with h2
  subst h2
  refine ⟨by omega, r, hr, hp, fun j q hj hq hpq => ?_⟩
  by_cases e : j = k
  · subst e; rw [hr] at hq; injection hq with hq; subst hq; exact Nat.le_refl _
  · have := h4 j q (by omega) hq hpq; omega
theorem size_ext (name : ByteArray) {n : Nat} (h : n ≤ name.size) : (name.extract 0 n).size = n := by rw [ByteArray.size_extract]; omega
theorem pre_ext (name : ByteArray) {n : Nat} (h : n ≤ name.size) : hasPre name (name.extract 0 n) = true := by rw [hasPre_iff, size_ext name h]; exact ⟨h, rfl⟩
theorem Best.none_ask (h : Best l name l.length none) : ∀ n, n ≤ name.size → askDown l name n = -1 := by
  have hl : ∀ n, n ≤ name.size → look (name.extract 0 n) l = none := by
    intro n hn
    cases hk : look (name.extract 0 n) l with
    | none => rfl
    | some s =>
      obtain ⟨h1, h2⟩ := look_mem hk
      obtain ⟨j, hj⟩ := List.getElem?_of_mem h1
      have := h.none_ rfl j s (List.getElem?_eq_some_iff.1 hj).1 hj
      rw [h2, pre_ext name hn] at this
      cases this
  intro n
  induction n with
  | zero => intro hn; unfold askDown; rw [hl 0 hn]
  | succ n ih => intro hn; unfold askDown; rw [hl _ hn]; exact ih (by omega)
theorem Best.some_ask (h : Best l name l.length (some i)) (hu : UpR l) (hr : l[i]? = some r) : ∀ n, n ≤ name.size → r.1.size ≤ n → askDown l name n = r.2.1 := by
  obtain ⟨h1, t, h2, h3, h4⟩ := h.some_ i rfl
  rw [hr] at h2
  injection h2 with h2
  subst h2
  obtain ⟨h5, h6⟩ := (hasPre_iff _ _).1 h3
  have hat : look (name.extract 0 r.1.size) l = some r := look_of hu (List.mem_of_getElem? hr) h6.symm
  have hno : ∀ n, n ≤ name.size → r.1.size < n → look (name.extract 0 n) l = none := by
    intro n hn hlt
    cases hk : look (name.extract 0 n) l with
    | none => rfl
    | some s =>
      obtain ⟨e1, e2⟩ := look_mem hk
      obtain ⟨j, hj⟩ := List.getElem?_of_mem e1
      have := h4 j s (List.getElem?_eq_some_iff.1 hj).1 hj (by rw [e2]; exact pre_ext name hn)
      rw [e2, size_ext name hn] at this
      omega
  intro n
  induction n with
  | zero =>
    intro hn hle
    unfold askDown
    rw [show r.1.size = 0 by omega] at hat
    rw [hat]
  | succ n ih =>
    intro hn hle
    unfold askDown
    by_cases e : r.1.size = n + 1
    · rw [e] at hat; rw [hat]
    · rw [hno _ hn (by omega)]; exact ih (by omega) (by omega)
end
/-- What Ask answers, of rules that may be: the level; the error. -/
def askOut (l : List Rul) (name : ByteArray) : Int × Int := if 200 < name.size then (0, 2) else if 0 ≤ askDown l name name.size then (askDown l name name.size, 0) else (0, 4)
end Go.Proofs.Ytfopihlbdceepaa
