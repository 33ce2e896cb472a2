/-
  The marks of a trace written and read again, as a plain matter. No program is named here.
-/
import Derived.Test.YtkliebhpdcjdgaaDoorSetP
namespace Go.Proofs.YtkliebhpdcjdgaaDoor

theorem all_hex {l : List UInt8} (h : hexTo l 14 = true) (hl : l.length ≤ 14) : ∀ c ∈ l, isHex c = true := by
  intro c hc
  obtain ⟨i, hi⟩ := List.mem_iff_getElem?.1 hc
  have hil := (List.getElem?_eq_some_iff.1 hi).1
  have := okTo_at (k := i) 14 h (by omega)
  simpa [List.getD, hi] using this
theorem hex_ne {c d : UInt8} (h : isHex c = true) (hd : d = 44 ∨ d = 61) : c ≠ d := by
  have h1 := of_decide_eq_true h
  rintro rfl
  rcases hd with rfl | rfl
  · revert h1; decide
  · revert h1; decide
theorem hex_vc {c : UInt8} (h : isHex c = true) : isVc c = true := by
  have h1 := of_decide_eq_true h
  refine decide_eq_true ?_
  omega
theorem hex_val {l : List UInt8} (h : ∀ c ∈ l, isHex c = true) (h0 : l ≠ []) : valOk l = true := by
  have hl : l.length ≠ 0 := fun e => h0 (List.eq_nil_of_length_eq_zero e)
  unfold valOk
  rw [decide_eq_true hl, Bool.true_and]
  refine okTo_of _ fun i hi => ?_
  have : l.getD i 0 ∈ l := by simp [List.getD, List.getElem?_eq_getElem hi]
  exact hex_vc (h _ this)
theorem pieces_none {c : UInt8} : ∀ {l : List UInt8}, (∀ b ∈ l, b ≠ c) → pieces c l = [l]
  | [], _ => rfl
  | b :: l, h => by
    have ih := pieces_none (l := l) (fun x hx => h x (List.mem_cons_of_mem _ hx))
    unfold pieces
    rw [if_neg (h b List.mem_cons_self), ih]
    rfl
theorem pieces_two {c : UInt8} {b : List UInt8} (hb : ∀ x ∈ b, x ≠ c) : ∀ {a : List UInt8}, (∀ x ∈ a, x ≠ c) → pieces c (a ++ c :: b) = [a, b]
  | [], _ => by
    show pieces c (c :: b) = _
    unfold pieces
    rw [if_pos rfl, pieces_none hb]
  | x :: a, h => by
    have ih := pieces_two hb (a := a) (fun y hy => h y (List.mem_cons_of_mem _ hy))
    show pieces c (x :: (a ++ c :: b)) = _
    unfold pieces
    rw [if_neg (h x List.mem_cons_self), ih]
    rfl
theorem cut_at {c : UInt8} {b : List UInt8} : ∀ {a : List UInt8}, (∀ x ∈ a, x ≠ c) → cutB c (a ++ c :: b) = a ∧ cutA c (a ++ c :: b) = b ∧ cutOk c (a ++ c :: b) = true
  | [], _ => by
    show cutB c (c :: b) = _ ∧ cutA c (c :: b) = _ ∧ cutOk c (c :: b) = _
    simp [cutB, cutA, cutOk]
  | x :: a, h => by
    obtain ⟨h1, h2, h3⟩ := cut_at (b := b) (a := a) (fun y hy => h y (List.mem_cons_of_mem _ hy))
    have hx := h x List.mem_cons_self
    show cutB c (x :: (a ++ c :: b)) = _ ∧ cutA c (x :: (a ++ c :: b)) = _ ∧ cutOk c (x :: (a ++ c :: b)) = _
    simp [cutB, cutA, cutOk, hx, h1, h2, h3]

/-- Digits read again. -/
theorem hexv_hexc {d : Nat} (h : d < 16) : hexv (hexc d) = d := by
  have e := hexc_nat h
  unfold hexv
  rw [e]
  split <;> split <;> omega
theorem getD_front {a b : List UInt8} {i : Nat} (h : i < a.length) : (a ++ b).getD i 48 = a.getD i 48 := by simp [List.getD, List.getElem?_append_left h]
theorem pv_front {a b : List UInt8} : ∀ {i}, i ≤ a.length → pv (a ++ b) i = pv a i
  | 0, _ => rfl
  | i + 1, h => by rw [pv, pv, pv_front (by omega), getD_front (by omega)]
theorem pv_digs : ∀ k n, pv (digs k n) k = n % 16 ^ k
  | 0, n => by simp [pv, Nat.mod_one]
  | k + 1, n => by
    have hl := digs_len k (n / 16)
    rw [digs, pv, pv_front (by omega), pv_digs k]
    have : (digs k (n / 16) ++ [hexc (n % 16)]).getD k 48 = hexc (n % 16) := by
      simp [List.getD, List.getElem?_append_right (show (digs k (n / 16)).length ≤ k by omega), hl]
    rw [this, hexv_hexc (Nat.mod_lt _ (by decide)), Nat.pow_succ, Nat.mul_comm (16 ^ k) 16, Nat.mod_mul]
    omega
theorem digs_hex : ∀ k n, ∀ c ∈ digs k n, isHex c = true
  | 0, n, c, h => by cases h
  | k + 1, n, c, h => by
    rw [digs] at h
    rcases List.mem_append.1 h with h | h
    · exact digs_hex k _ c h
    · rw [List.mem_singleton] at h
      subst h
      exact isHex_hexc (Nat.mod_lt _ (by decide))
theorem digs_all (n : Nat) : hexTo (digs 14 n) 14 = true := by
  refine okTo_of _ fun i hi => ?_
  have hl := digs_len 14 n
  have : (digs 14 n).getD i 48 ∈ digs 14 n := by simp [List.getD, List.getElem?_eq_getElem (show i < (digs 14 n).length by omega)]
  exact digs_hex 14 n _ this
theorem rv_back {r : Nat} (h : r < 72057594037927936) : rvOk (digs 14 r) = true ∧ rvR (digs 14 r) = (r : Int) := by
  have h1 : rvOk (digs 14 r) = true := by unfold rvOk; rw [digs_all, decide_eq_true (digs_len 14 r)]; rfl
  refine ⟨h1, ?_⟩
  unfold rvR
  rw [h1, pv_digs, Nat.mod_eq_of_lt (by omega)]
  rfl

/-- A level's threshold. -/
def lvl (k : Nat) : Nat := 72057594037927936 - 72057594037927936 / 2 ^ k
theorem lvl_lt (k : Nat) (h : k ≤ 20) : lvl k < 72057594037927936 := by
  have : 0 < 72057594037927936 / 2 ^ k := Nat.div_pos (Nat.le_trans (Nat.pow_le_pow_right (by decide) h) (by decide)) (Nat.pow_pos (by decide))
  unfold lvl
  omega
theorem lvl_mono {k o : Nat} (h : o ≤ k) : lvl o ≤ lvl k := by
  have : 72057594037927936 / 2 ^ k ≤ 72057594037927936 / 2 ^ o := Nat.div_le_div_left (Nat.pow_le_pow_right (by decide) h) (Nat.pow_pos (by decide))
  unfold lvl
  omega
theorem lvl_d (k : Nat) : lvl k + 72057594037927936 / 2 ^ k = 72057594037927936 := by
  have : 72057594037927936 / 2 ^ k ≤ 72057594037927936 := Nat.div_le_self _ _
  unfold lvl
  omega
theorem lvl_div : ∀ k, k < 21 → 72057594037927936 * 1 / (72057594037927936 / 2 ^ k) = 2 ^ k := by decide +kernel
theorem lvl_back : ∀ k, k < 21 → thOk (thS (digs 14 (lvl k))) = true ∧ thR (thS (digs 14 (lvl k))) = (lvl k : Int) ∧ (thS (digs 14 (lvl k))).length ≤ 14 ∧ hexTo (thS (digs 14 (lvl k))) 14 = true ∧ thS (digs 14 (lvl k)) ≠ [] := by decide +kernel

/-- The mark, and the pairs that say it. -/
def mkOf (k r : Nat) : Mk := ((lvl k : Int), (r : Int), true, true)
def prsOf (k r : Nat) : List Pr := [thPr (mkOf k r), rvPr (mkOf k r)]
section
variable {k r : Nat}
theorem bl_th : bl (thPr (mkOf k r)).2 = thS (digs 14 (lvl k)) := by simp [thPr, mkOf, bl]
theorem bl_rv : bl (rvPr (mkOf k r)).2 = digs 14 r := by simp [rvPr, mkOf, bl]
theorem set_is (hk : k < 21) (hr : r < 72057594037927936) : setE [] (mkOf k r) = 0 ∧ setAll [] (mkOf k r) = prsOf k r := by
  have h1 := lvl_lt k (by omega)
  refine ⟨setE_ok ?_ ?_, ?_⟩
  · unfold drawOk mkOf
    rw [decide_eq_true (by constructor <;> dsimp only <;> omega), decide_eq_true (by constructor <;> dsimp only <;> omega)]; rfl
  · have := heads_len (mkOf k r)
    simp only [setAll, rest, List.filter_nil, List.append_nil]
    omega
  · simp [setAll, rest, heads, mkOf, prsOf, thPr, rvPr]
theorem prErr_is (hk : k < 21) : prErr 2 (prsOf k r) = 0 := by
  obtain ⟨_, _, h3, h4, h5⟩ := lvl_back k hk
  have k1 : keyOk (bl thName) = true := by decide +kernel
  have k2 : keyOk (bl rvName) = true := by decide +kernel
  have v1 : valOk (bl (thPr (mkOf k r)).2) = true := by rw [bl_th]; exact hex_val (all_hex h4 h3) h5
  have v2 : valOk (bl (rvPr (mkOf k r)).2) = true := by
    rw [bl_rv]; refine hex_val (digs_hex 14 r) fun e => ?_
    have := digs_len 14 r; rw [e] at this; cases this
  unfold prErr
  rw [if_neg (by omega)]
  refine faultTo_next (faultTo_next rfl (prStep_ok (p := thPr (mkOf k r)) rfl k1 v1 ?_)) (prStep_ok (p := rvPr (mkOf k r)) rfl k2 v2 ?_)
  · rfl
  · have : ¬ (thPr (mkOf k r)).1 = (rvPr (mkOf k r)).1 := names_differ
    simp [dupAt, prsOf, this]
theorem text_is : txTo (prsOf k r) 2 = (bl thName ++ 61 :: thS (digs 14 (lvl k))) ++ 44 :: (bl rvName ++ 61 :: digs 14 r) := by
  simp only [txTo, prsOf, prText, List.getD, List.getElem?_cons_zero, List.getElem?_cons_succ, Option.getD_some, List.nil_append]
  rw [bl_th, bl_rv]
  simp [thPr, rvPr]
theorem text_len (hk : k < 21) : (txTo (prsOf k r) 2).length ≤ 200 ∧ (txTo (prsOf k r) 2).length ≠ 0 := by
  obtain ⟨_, _, h3, _, _⟩ := lvl_back k hk
  have e1 : (bl thName).length = 2 := by decide
  have e2 : (bl rvName).length = 2 := by decide
  have e3 := digs_len 14 r
  rw [text_is, List.length_append, List.length_append, List.length_cons, List.length_cons, List.length_append, List.length_cons]
  omega
theorem read_is (hk : k < 21) : rdErr (txTo (prsOf k r) 2) = 0 ∧ rdRes (txTo (prsOf k r) 2) = prsOf k r := by
  obtain ⟨l1, l2⟩ := text_len (k := k) (r := r) hk
  obtain ⟨_, _, h3, h4, h5⟩ := lvl_back k hk
  have c1 := all_hex h4 h3
  have c2 := digs_hex 14 r
  have n1 : ∀ d : UInt8, d = 44 ∨ d = 61 → ∀ x ∈ bl thName, x ≠ d := by
    intro d hd x hx
    have : x = 116 ∨ x = 104 := by simpa [bl, thName] using hx
    rcases this with rfl | rfl <;> rcases hd with rfl | rfl <;> decide
  have n2 : ∀ d : UInt8, d = 44 ∨ d = 61 → ∀ x ∈ bl rvName, x ≠ d := by
    intro d hd x hx
    have : x = 114 ∨ x = 118 := by simpa [bl, rvName] using hx
    rcases this with rfl | rfl <;> rcases hd with rfl | rfl <;> decide
  have hp : pieces 44 (txTo (prsOf k r) 2) = [bl thName ++ 61 :: thS (digs 14 (lvl k)), bl rvName ++ 61 :: digs 14 r] := by
    rw [text_is]
    refine pieces_two ?_ ?_
    · intro x hx
      rcases List.mem_append.1 hx with hx | hx
      · exact n2 44 (.inl rfl) x hx
      · rcases List.mem_cons.1 hx with rfl | hx
        · decide
        · exact hex_ne (c2 x hx) (.inl rfl)
    · intro x hx
      rcases List.mem_append.1 hx with hx | hx
      · exact n1 44 (.inl rfl) x hx
      · rcases List.mem_cons.1 hx with rfl | hx
        · decide
        · exact hex_ne (c1 x hx) (.inl rfl)
  obtain ⟨a1, a2, a3⟩ := cut_at (c := 61) (b := thS (digs 14 (lvl k))) (n1 61 (.inr rfl))
  obtain ⟨b1, b2, b3⟩ := cut_at (c := 61) (b := digs 14 r) (n2 61 (.inr rfl))
  have hok : rdOk (txTo (prsOf k r) 2) = true := by unfold rdOk; rw [hp]; simp [a3, b3]
  have hall : rdAll (txTo (prsOf k r) 2) = prsOf k r := by
    unfold rdAll
    rw [hp]
    simp only [List.map_cons, List.map_nil, rdPair, a1, a2, b1, b2]
    simp [prsOf, thPr, rvPr, mkOf, bl, thName, rvName]
  have he : rdErr (txTo (prsOf k r) 2) = 0 := by
    unfold rdErr
    rw [if_neg (by omega), if_neg l2, if_pos hok, hall]
    exact prErr_is hk
  refine ⟨he, ?_⟩
  unfold rdRes
  rw [if_pos he, if_neg l2, hall]
theorem mark_is (hk : k < 21) (hr : r < 72057594037927936) : mkRes 2 (prsOf k r) = mkOf k r ∧ mkErr 2 (prsOf k r) = 0 := by
  obtain ⟨h1, h2, _, _, _⟩ := lvl_back k hk
  obtain ⟨r1, r2⟩ := rv_back hr
  have hp1 : pOk (thPr (mkOf k r)) = true := by rw [pOk_th rfl, bl_th]; exact h1
  have hp2 : pOk (rvPr (mkOf k r)) = true := by rw [pOk_rv rfl, bl_rv]; exact r1
  have ha : pAll (prsOf k r) 2 = true := pAll_next (p := rvPr (mkOf k r)) rfl (pAll_next (p := thPr (mkOf k r)) rfl rfl hp1) hp2
  obtain ⟨e1, e2⟩ := mk_all ha
  refine ⟨?_, e2⟩
  rw [e1, mkTo_next (p := rvPr (mkOf k r)) rfl, mkTo_next (p := thPr (mkOf k r)) rfl, step_rv rfl, step_th rfl, bl_th, bl_rv, h2, r2]
  rfl
end
end Go.Proofs.YtkliebhpdcjdgaaDoor
