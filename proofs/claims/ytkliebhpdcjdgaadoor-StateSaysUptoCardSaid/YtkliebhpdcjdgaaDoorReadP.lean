/-
  Reading a text byte by byte: the state behind the first k bytes, as a plain matter. No program is named here.
-/
import Derived.Test.YtkliebhpdcjdgaaDoorStateP
namespace Go.Proofs.YtkliebhpdcjdgaaDoor

def lt (l : List UInt8) (k : Nat) : List UInt8 := if k ≤ l.length then last (l.take k) else []
def wh (l : List UInt8) (k : Nat) : List (List UInt8) := if k ≤ l.length then whole (l.take k) else pieces 44 l
theorem lt_zero (l : List UInt8) : lt l 0 = [] := by unfold lt; rw [if_pos (Nat.zero_le _)]; rfl
theorem wh_zero (l : List UInt8) : wh l 0 = [] := by unfold wh; rw [if_pos (Nat.zero_le _)]; rfl
theorem take_next' {l : List UInt8} {k : Nat} (h : k < l.length) : l.take (k + 1) = l.take k ++ [l.getD k 0] := by
  rw [List.take_add_one, List.getElem?_eq_getElem h]
  simp [List.getD, List.getElem?_eq_getElem h]
theorem stepComma {l : List UInt8} {k : Nat} (hk : k ≤ l.length) (hc : k = l.length ∨ l.getD k 0 = 44) : wh l (k + 1) = wh l k ++ [lt l k] ∧ lt l (k + 1) = [] := by
  unfold wh lt
  rw [if_pos hk, if_pos hk]
  by_cases e : k = l.length
  · rw [if_neg (by omega), if_neg (by omega), e, List.take_length]
    exact ⟨pieces_last l, rfl⟩
  · have hlt : k < l.length := by omega
    have hb : l.getD k 0 = 44 := by rcases hc with h | h; exact absurd h e; exact h
    rw [if_pos (by omega), if_pos (by omega), take_next' hlt, hb]
    exact whole_comma _
theorem stepOther {l : List UInt8} {k : Nat} (hk : k < l.length) (hc : l.getD k 0 ≠ 44) : wh l (k + 1) = wh l k ∧ lt l (k + 1) = lt l k ++ [l.getD k 0] := by
  unfold wh lt
  rw [if_pos (by omega), if_pos (by omega), if_pos (by omega), if_pos (by omega), take_next' hk]
  exact whole_other _ hc
theorem wh_end (l : List UInt8) : wh l (l.length + 1) = pieces 44 l := by unfold wh; rw [if_neg (by omega)]
theorem pieces_pre (s : List UInt8) : ∀ (n : Nat) (t : List UInt8), t.length = n → ∃ r, r ≠ [] ∧ pieces 44 (s ++ t) = whole s ++ r
  | 0, t, h => by
    rw [List.eq_nil_of_length_eq_zero h]
    exact ⟨[last s], by simp, by rw [List.append_nil]; exact pieces_last s⟩
  | n + 1, t, h => by
    have hne : t ≠ [] := by intro e; rw [e] at h; simp at h
    obtain ⟨u, b, rfl⟩ : ∃ u b, t = u ++ [b] := ⟨t.dropLast, t.getLast hne, (List.dropLast_concat_getLast hne).symm⟩
    obtain ⟨r, hr, e⟩ := pieces_pre s n u (by simpa using h)
    rw [← List.append_assoc, pieces_snoc]
    split
    · exact ⟨r ++ [[]], by simp, by rw [e, List.append_assoc]⟩
    · refine ⟨r.dropLast ++ [(pieces 44 (s ++ u)).getLastD [] ++ [b]], by simp, ?_⟩
      rw [e, List.dropLast_append_of_ne_nil hr, List.append_assoc]
theorem lt_in {l : List UInt8} {k : Nat} (hk : k ≤ l.length) (hc : k = l.length ∨ l.getD k 0 = 44) : lt l k ∈ pieces 44 l := by
  have h1 := (stepComma hk hc).1
  by_cases e : k = l.length
  · rw [e, wh_end] at h1
    rw [h1, e]
    simp
  · obtain ⟨r, _, hr⟩ := pieces_pre (l.take (k + 1)) _ (l.drop (k + 1)) rfl
    rw [List.take_append_drop] at hr
    have h2 : wh l (k + 1) = whole (l.take (k + 1)) := by unfold wh; rw [if_pos (by omega)]
    rw [hr, ← h2, h1]
    simp
theorem last_le (s : List UInt8) : (last s).length ≤ s.length := by
  have h := pieces_last s
  have hm : last s ∈ pieces 44 s := by rw [h]; simp
  exact pieces_le' 44 s _ hm
where
  pieces_le' (c : UInt8) : ∀ (l x : List UInt8), x ∈ pieces c l → x.length ≤ l.length
    | [], x, h => by simp [pieces] at h; subst h; exact Nat.le_refl _
    | b :: l, x, h => by
      unfold pieces at h
      split at h
      · rcases List.mem_cons.1 h with rfl | h
        · exact Nat.zero_le _
        · exact Nat.le_succ_of_le (pieces_le' c l x h)
      · rcases List.mem_cons.1 h with rfl | h
        · obtain ⟨y, r, hy⟩ := List.exists_cons_of_ne_nil (pieces_ne c l)
          have := pieces_le' c l y (by rw [hy]; exact List.mem_cons_self ..)
          rw [hy]
          simp
          exact this
        · have := pieces_le' c l x (List.mem_of_mem_tail h)
          simp; omega
theorem lt_le (l : List UInt8) (k : Nat) : (lt l k).length ≤ l.length := by
  unfold lt
  split
  · refine Nat.le_trans (last_le _) ?_
    rw [List.length_take]; omega
  · exact Nat.zero_le _
/-- What a byte more turns. -/
theorem byte_sign {t : List UInt8} (h : cutOk 61 t = false) : cutB 61 (t ++ [61]) = cutB 61 t ∧ cutA 61 (t ++ [61]) = cutA 61 t ∧ cutOk 61 (t ++ [61]) = true := by
  obtain ⟨h1, h2, h3⟩ := cut_snoc 61 61 t
  rw [h1, h2, h3, h, cutA_not h]
  simp
theorem byte_val {t : List UInt8} {b : UInt8} (h : cutOk 61 t = true) : cutB 61 (t ++ [b]) = cutB 61 t ∧ cutA 61 (t ++ [b]) = cutA 61 t ++ [b] ∧ cutOk 61 (t ++ [b]) = true := by
  obtain ⟨h1, h2, h3⟩ := cut_snoc 61 b t
  rw [h1, h2, h3, h]
  simp
theorem byte_key {t : List UInt8} {b : UInt8} (h : cutOk 61 t = false) (hb : b ≠ 61) : cutB 61 (t ++ [b]) = cutB 61 t ++ [b] ∧ cutA 61 (t ++ [b]) = cutA 61 t ∧ cutOk 61 (t ++ [b]) = false := by
  obtain ⟨h1, h2, h3⟩ := cut_snoc 61 b t
  rw [h1, h2, h3, h, cutA_not h]
  simp [hb]
end Go.Proofs.YtkliebhpdcjdgaaDoor
