/-
  Hexadecimal digits, as a plain matter of lists of bytes. No program is named here.
-/
import Derived.Test.YtkliebhpdcjdgaaDoorPlain
namespace Go.Proofs.YtkliebhpdcjdgaaDoor

def hexc (d : Nat) : UInt8 := if d < 10 then UInt8.ofNat (48 + d) else UInt8.ofNat (87 + d)
def isHex (c : UInt8) : Bool := decide (48 ≤ c.toNat ∧ c.toNat ≤ 57 ∨ 97 ≤ c.toNat ∧ c.toNat ≤ 102)
def hexv (c : UInt8) : Nat := if c.toNat ≤ 57 then c.toNat - 48 else c.toNat - 87
theorem hexv_lt {c : UInt8} (h : isHex c = true) : hexv c < 16 := by
  have := of_decide_eq_true h
  unfold hexv
  split <;> omega
theorem u8_eq {a b : UInt8} (h : a.toNat = b.toNat) : a = b := UInt8.toNat_inj.1 h
theorem hexc_nat {d : Nat} (h : d < 16) : (hexc d).toNat = if d < 10 then 48 + d else 87 + d := by
  unfold hexc
  split
  · rw [UInt8.toNat_ofNat']; omega
  · rw [UInt8.toNat_ofNat']; omega
theorem hexc_hexv {c : UInt8} (h : isHex c = true) : hexc (hexv c) = c := by
  apply u8_eq
  rw [hexc_nat (hexv_lt h)]
  have := of_decide_eq_true h
  unfold hexv
  split <;> split <;> omega
theorem isHex_hexc {d : Nat} (h : d < 16) : isHex (hexc d) = true := by
  unfold isHex
  rw [hexc_nat h]
  apply decide_eq_true
  split <;> omega
/-- The k last digits of n. -/
def digs : Nat → Nat → List UInt8
  | 0, _ => []
  | k + 1, n => digs k (n / 16) ++ [hexc (n % 16)]
theorem digs_len : ∀ k n, (digs k n).length = k
  | 0, _ => rfl
  | k + 1, n => by rw [digs, List.length_append, digs_len k]; rfl
theorem digs_cons : ∀ k n, digs (k + 1) n = hexc (n / 16 ^ k % 16) :: digs k n
  | 0, n => by simp [digs]
  | k + 1, n => by
    rw [digs, digs_cons k (n / 16), digs, List.cons_append, Nat.div_div_eq_div_mul, Nat.pow_succ, Nat.mul_comm (16 ^ k) 16]
theorem digs_up {n j : Nat} (h : j < 14) : digs (j + 1) (n / 16 ^ (13 - j)) = digs j (n / 16 ^ (14 - j)) ++ [hexc (n / 16 ^ (13 - j) % 16)] := by
  rw [digs, Nat.div_div_eq_div_mul, ← Nat.pow_succ, show (13 - j).succ = 14 - j by omega]
/-- The noughts at the end away; one stays if there is nothing else. -/
def tz (l : List UInt8) : List UInt8 := (l.reverse.dropWhile (· == 48)).reverse
def thS (l : List UInt8) : List UInt8 := if tz l = [] then [48] else tz l
theorem tz_snoc_zero (l : List UInt8) : tz (l ++ [48]) = tz l := by simp [tz]
theorem tz_snoc {l : List UInt8} {c : UInt8} (h : c ≠ 48) : tz (l ++ [c]) = l ++ [c] := by
  simp [tz, List.dropWhile_cons, h]
theorem tz_zeros (l : List UInt8) : ∀ k, tz (l ++ List.replicate k 48) = tz l
  | 0 => by simp
  | k + 1 => by rw [List.replicate_succ', ← List.append_assoc, tz_snoc_zero, tz_zeros l k]
theorem tz_len (l : List UInt8) : (tz l).length ≤ l.length := by
  unfold tz
  rw [List.length_reverse]
  have h := (List.dropWhile_sublist (· == (48 : UInt8)) (l := l.reverse)).length_le
  rwa [List.length_reverse] at h
/-- What the program's loop comes to. -/
theorem th_is {l : List UInt8} {k : Nat} (hk : 0 < k) (hl : k ≤ l.length) (hz : ∀ j, k ≤ j → j < l.length → l[j]? = some 48) (he : k = 1 ∨ ∀ c, l[k - 1]? = some c → c ≠ 48) : l.take k = thS l := by
  have h1 : l = l.take k ++ List.replicate (l.length - k) 48 := by
    apply List.ext_getElem?
    intro j
    by_cases hj : j < k
    · rw [List.getElem?_append_left (by rw [List.length_take]; omega), List.getElem?_take_of_lt hj]
    · rw [List.getElem?_append_right (by rw [List.length_take]; omega), List.length_take, Nat.min_eq_left hl]
      by_cases hj2 : j < l.length
      · rw [hz j (by omega) hj2, List.getElem?_replicate, if_pos (by omega)]
      · rw [List.getElem?_eq_none (by omega), List.getElem?_replicate, if_neg (by omega)]
  have h2 : tz l = tz (l.take k) := by
    conv => lhs; rw [h1]
    exact tz_zeros _ _
  obtain ⟨m, rfl⟩ : ∃ m, k = m + 1 := ⟨k - 1, by omega⟩
  obtain ⟨c, hc⟩ : ∃ c, l[m]? = some c := ⟨_, List.getElem?_eq_getElem (by omega)⟩
  have h3 : l.take (m + 1) = l.take m ++ [c] := by rw [List.take_add_one, hc]; rfl
  by_cases e : c = 48
  · subst e
    rcases he with he | he
    · have : m = 0 := by omega
      subst this
      unfold thS
      rw [h2, h3]
      simp [tz]
    · exact absurd rfl (he 48 (by simpa using hc))
  · unfold thS
    rw [h2, h3, tz_snoc e, if_neg (by simp)]
/-- What the first i digits say; what is not there is a nought. -/
def pv (l : List UInt8) : Nat → Nat
  | 0 => 0
  | i + 1 => pv l i * 16 + hexv (l.getD i 48)
/-- Are those that are there, of the first k, digits? -/
def hexTo (l : List UInt8) (k : Nat) : Bool := okTo (fun i => isHex (l.getD i 48)) k
theorem hexv_48 : hexv 48 = 0 := by decide
theorem isHex_48 : isHex 48 = true := by decide
theorem pv_lt {l : List UInt8} : ∀ i, hexTo l i = true → pv l i < 16 ^ i
  | 0, _ => by simp [pv]
  | i + 1, h => by
    have h1 : hexTo l i = true := okTo_of i fun k hk => okTo_at (i + 1) h (by omega)
    have h2 := hexv_lt (okTo_at (i + 1) h (Nat.lt_succ_self i))
    have := pv_lt i h1
    rw [pv, Nat.pow_succ]
    omega
theorem digs_pv {l : List UInt8} : ∀ i, hexTo l i = true → digs i (pv l i) = (List.range i).map fun j => l.getD j 48
  | 0, _ => rfl
  | i + 1, h => by
    have h1 : hexTo l i = true := okTo_of i fun k hk => okTo_at (i + 1) h (by omega)
    have h2 := okTo_at (i + 1) h (Nat.lt_succ_self i)
    have h3 := hexv_lt h2
    rw [digs, pv, show (pv l i * 16 + hexv (l.getD i 48)) / 16 = pv l i by omega, show (pv l i * 16 + hexv (l.getD i 48)) % 16 = hexv (l.getD i 48) by omega, digs_pv i h1, hexc_hexv h2, List.range_succ, List.map_append]
    rfl
theorem padded {l : List UInt8} {n : Nat} (hl : l.length ≤ n) : (List.range n).map (fun j => l.getD j 48) = l ++ List.replicate (n - l.length) 48 := by
  apply List.ext_getElem?
  intro j
  by_cases hj : j < n
  · rw [List.getElem?_map, List.getElem?_range hj]
    by_cases h2 : j < l.length
    · rw [List.getElem?_append_left h2]
      simp [List.getD, List.getElem?_eq_getElem h2]
    · rw [List.getElem?_append_right (by omega), List.getElem?_replicate, if_pos (by omega)]
      simp [List.getD, List.getElem?_eq_none (Nat.le_of_not_lt h2)]
  · rw [List.getElem?_eq_none (by simp; omega), List.getElem?_eq_none (by simp; omega)]
theorem padded_at (l : List UInt8) (m j : Nat) : (l ++ List.replicate m 48).getD j 48 = l.getD j 48 := by
  by_cases h : j < l.length
  · simp [List.getD, List.getElem?_append_left h]
  · simp only [List.getD, List.getElem?_append_right (Nat.le_of_not_lt h), List.getElem?_eq_none (Nat.le_of_not_lt h), List.getElem?_replicate]
    split <;> rfl
theorem pv_pad (l : List UInt8) (m : Nat) : ∀ i, pv (l ++ List.replicate m 48) i = pv l i
  | 0 => rfl
  | i + 1 => by rw [pv, pv, pv_pad l m i, padded_at]
theorem hexTo_pad (l : List UInt8) (m k : Nat) : hexTo (l ++ List.replicate m 48) k = hexTo l k := by
  unfold hexTo
  congr 1
  funext i
  rw [padded_at]
/-- A threshold's text, as the program takes it. -/
def endsBad (l : List UInt8) : Bool := decide (1 < l.length) && (l.getD (l.length - 1) 0 == 48)
theorem th_back {l : List UInt8} (h1 : 1 ≤ l.length) (h2 : l.length ≤ 14) (hx : hexTo l 14 = true) : (thS (digs 14 (pv l 14)) = l) ↔ endsBad l = false := by
  rw [digs_pv 14 hx, padded h2]
  obtain ⟨m, c, rfl⟩ : ∃ m c, l = m ++ [c] := ⟨l.dropLast, l.getLast (by intro h; subst h; simp at h1), (List.dropLast_concat_getLast _).symm⟩
  have hlast : (m ++ [c]).getD ((m ++ [c]).length - 1) 0 = c := by simp [List.getD]
  have hlen : (m ++ [c]).length = m.length + 1 := by simp
  unfold thS endsBad
  rw [tz_zeros, hlast, hlen]
  by_cases e : c = 48
  · subst e
    rw [tz_snoc_zero]
    by_cases hm : m = []
    · subst hm; simp [tz]
    · have hml : 0 < m.length := List.length_pos_iff.2 hm
      have hd : decide (1 < m.length + 1) = true := decide_eq_true (by omega)
      rw [hd]
      simp only [Bool.true_and, beq_self_eq_true, Bool.true_eq_false, iff_false]
      have := tz_len m
      split
      · intro h
        have := congrArg List.length h
        simp only [List.length_append, List.length_cons, List.length_nil] at this
        omega
      · intro h
        have := congrArg List.length h
        simp only [List.length_append, List.length_cons, List.length_nil] at this
        omega
  · rw [tz_snoc e, if_neg (by simp)]
    have : (c == 48) = false := by simpa using e
    simp [this]
/-- What ParseTh answers: the number, if it is one. -/
def thOk (l : List UInt8) : Bool := hexTo l 14 && decide (1 ≤ l.length ∧ l.length ≤ 14) && !endsBad l
def thV (l : List UInt8) : Int := bif thOk l then (pv l 14 : Int) else 0
def thE (l : List UInt8) : Int := bif thOk l then 0 else 3
def thR (l : List UInt8) : Int := bif thOk l then (pv l 14 : Int) else -1
def rvOk (l : List UInt8) : Bool := hexTo l 14 && decide (l.length = 14)
def rvV (l : List UInt8) : Int := bif rvOk l then (pv l 14 : Int) else 0
def rvE (l : List UInt8) : Int := bif rvOk l then 0 else 3
def rvR (l : List UInt8) : Int := bif rvOk l then (pv l 14 : Int) else -1
end Go.Proofs.YtkliebhpdcjdgaaDoor
