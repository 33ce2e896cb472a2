/- Proves the parts of the claim that its last text joins: Mem, Open, Plain, HexaP, Within, Num, Hexa. Conditions: those that each theorem names. -/
import Derived.Below
import Derived.Laws.OwnMore
import Derived.Deep.Draws
import Derived.OwnWalk
import Derived.ProofKit
import Derived.OpenShut
import Derived.ShutString
import Derived.ChangeOld
import Derived.SizedLaws
import Derived.Lib.SmallJoins
import Derived.Test.YtjpbjghdplbdcaaGreatDoorProg
import Derived.WalkKit
import Derived.WalkSpells
import Derived.Laws.BitsAllLaws
import Derived.Laws.IdiomStrings
import Derived.Deep.QuietTactic
import Derived.BigQuiet
import Derived.Deep.DeepCutAuto
section
namespace Go.Proofs.YtjpbjghdplbdcaaGreatDoor
open Go.RowKit
theorem add_block (a : Addr) (n : Nat) : (a.add n).block = a.block := by unfold Addr.add; split <;> rfl
theorem add_add (a : Addr) (i j : Nat) : (a.add i).add j = a.add (i + j) := by
  unfold Addr.add
  by_cases hi : i = 0 <;> by_cases hj : j = 0 <;> simp [hi, hj, Nat.add_assoc]
theorem add_lit0 (g j : Nat) : (⟨g, 0, none⟩ : Addr).add j = ⟨g, j, none⟩ := by unfold Addr.add; split <;> simp_all

structure Sl (w : World) (B size : Nat) (A : Option Addr) (n c : Nat) (xs : List Value) : Prop where
  len : xs.length = n * size
  cap : n ≤ c
  max : c ≤ maxLen
  nul : A = none → c = 0
  at_ : 0 < n → ∃ ad, A = some ad ∧ ad.block < B ∧ ∀ j u, xs[j]? = some u → w.cell? (ad.add j) = some u

section
variable {w w' : World} {B B' size n c : Nat} {A : Option Addr} {xs : List Value}
theorem Sl.nil (w : World) (B size : Nat) : Sl w B size none 0 0 [] := ⟨by simp, Nat.le_refl _, Nat.zero_le _, fun _ => rfl, fun h => absurd h (by omega)⟩
theorem Sl.keep (h : Sl w B size A n c xs) (hk : ∀ p : Addr, p.block < B → w'.cell? p = w.cell? p) : Sl w' B size A n c xs :=
  ⟨h.len, h.cap, h.max, h.nul, fun hn => by
    obtain ⟨ad, e, hb, hc⟩ := h.at_ hn
    exact ⟨ad, e, hb, fun j u hu => (hk _ (by rw [add_block]; exact hb)).trans (hc j u hu)⟩⟩
theorem Sl.more (h : Sl w B size A n c xs) (hB : B ≤ B') : Sl w B' size A n c xs :=
  ⟨h.len, h.cap, h.max, h.nul, fun hn => by
    obtain ⟨ad, e, hb, hc⟩ := h.at_ hn
    exact ⟨ad, e, by omega, hc⟩⟩
theorem Sl.below (h : Sl w B size A n c xs) (hb : Below B w w') : Sl w' B size A n c xs := h.keep fun _ hp => hb.cell hp
theorem Sl.drew (h : Sl w B size A n c xs) : Sl w.drew B size A n c xs := h.keep fun _ _ => rfl
theorem Sl.drewN (h : Sl w B size A n c xs) (k : Nat) : Sl (w.drewN k) B size A n c xs := h.keep fun _ _ => rfl
theorem Sl.on (h : Sl w w.heap.size size A n c xs) (hb : Below w.heap.size w w') : Sl w' w'.heap.size size A n c xs := (h.below hb).more hb.size
theorem Sl.alloc (h : Sl w B size A n c xs) (hB : B ≤ w.heap.size) (o : Obj) : Sl (w.alloc o) B size A n c xs := h.keep fun p hp => World.cell?_alloc_lt w o p (by omega)
theorem Sl.len_max (h : Sl w B size A n c xs) : n ≤ 9223372036854775807 := by have h1 := h.cap; have h2 := h.max; simp only [maxLen] at h2; omega
theorem Sl.cell (h : Sl w B size A n c xs) {j : Nat} {u : Value} (hj : xs[j]? = some u) : ∃ ad, A = some ad ∧ ad.block < B ∧ w.cell? (ad.add j) = some u := by
  have hl : j < n * size := by rw [← h.len]; exact (List.getElem?_eq_some_iff.1 hj).1
  have hn : 0 < n := by
    rcases Nat.eq_zero_or_pos n with h0 | h0
    · subst h0; simp at hl
    · exact h0
  obtain ⟨ad, e, hb, hc⟩ := h.at_ hn
  exact ⟨ad, e, hb, hc j u hj⟩
theorem Sl.of_own {base : Nat} {e : TypeId} {v : Value} (h : w.ownsRow base e size v n xs) : ∃ A c, v = .slice A n c ∧ Sl w w.heap.size size A n c xs := by
  rcases h.2 with ⟨rfl, h0⟩ | ⟨g, cap, cur, rfl, hg, hh, hnc, hcm, hcs, ht⟩
  · refine ⟨none, 0, by rw [h0], ?_⟩
    have hx : xs = [] := List.eq_nil_of_length_eq_zero (by rw [h.1, h0]; simp)
    rw [hx, h0]
    exact Sl.nil w _ size
  · refine ⟨some ⟨g, 0, none⟩, cap, rfl, h.1, hnc, hcm, (fun hA => by cases hA), fun hn => ⟨_, rfl, (Array.getElem?_eq_some_iff.1 hh).1, fun j u hu => h.cells (g := g) rfl j u hu⟩⟩
theorem Sl.cut (h : Sl w B size A n c xs) {lo hi : Nat} (hl : lo ≤ hi) (hh : hi ≤ n) :
    Sl w B size (if c = lo then A else A.map (·.add (lo * size))) (hi - lo) (c - lo) ((xs.drop (lo * size)).take ((hi - lo) * size)) := by
  have h1 := h.cap
  have h2 := h.max
  refine ⟨?_, by omega, by omega, fun hA => ?_, fun hn => ?_⟩
  · rw [List.length_take, List.length_drop, h.len, ← Nat.sub_mul, Nat.min_eq_left]
    exact Nat.mul_le_mul_right _ (by omega)
  · split at hA
    · omega
    · have := h.nul (by simpa using hA); omega
  · obtain ⟨ad, rfl, hb, hcell⟩ := h.at_ (by omega)
    rw [if_neg (by omega)]
    refine ⟨ad.add (lo * size), rfl, by rw [add_block]; exact hb, fun j u hu => ?_⟩
    rw [add_add]
    rw [List.getElem?_take] at hu
    split at hu
    · exact hcell _ u (by rw [← hu, List.getElem?_drop])
    · cases hu
theorem Sl.take (h : Sl w B size A n c xs) {hi : Nat} (hh : hi ≤ n) : Sl w B size A hi c (xs.take (hi * size)) := by
  have h1 := h.cap
  refine ⟨?_, by omega, h.max, h.nul, fun hn => ?_⟩
  · rw [List.length_take, h.len, Nat.min_eq_left]
    exact Nat.mul_le_mul_right _ (by omega)
  · obtain ⟨ad, rfl, hb, hcell⟩ := h.at_ (by omega)
    refine ⟨ad, rfl, hb, fun j u hu => ?_⟩
    rw [List.getElem?_take] at hu
    split at hu
    · exact hcell _ u hu
    · cases hu
theorem Sl.upd (h : Sl w B size A n c xs) (hb : Below w.heap.size w w') (hB : B ≤ w.heap.size) (hB' : B ≤ B') : Sl w' B' size A n c xs := (h.below (hb.mono hB)).more hB'
end
def ints (zs : List Int) : List Value := zs.map (Value.int .i64)
theorem ints_len (zs : List Int) : (ints zs).length = zs.length := by simp [ints]
theorem ints_at {zs : List Int} {j : Nat} {x : Int} (h : zs[j]? = some x) : (ints zs)[j]? = some (.int .i64 x) := by simp [ints, h]
theorem ints_append (a b : List Int) : ints (a ++ b) = ints a ++ ints b := by simp [ints]
theorem ints_one (zs : List Int) : ∀ u ∈ ints zs, u.oneCell' = true := ints_oneCell .i64 zs
theorem ints_getElem? (zs : List Int) (j : Nat) : (ints zs)[j]? = zs[j]?.map (Value.int .i64) := by simp [ints]
theorem ints_set (zs : List Int) (k : Nat) (x : Int) : ints (zs.set k x) = (ints zs).set k (.int .i64 x) := by simp [ints, List.map_set]
theorem ints_take (zs : List Int) (k : Nat) : (ints zs).take k = ints (zs.take k) := by simp [ints, List.map_take]
abbrev Si (w : World) (A : Option Addr) (n c : Nat) (zs : List Int) : Prop := Sl w w.heap.size 1 A n c (ints zs)
theorem Sl.ilen {w : World} {B : Nat} {A : Option Addr} {n c : Nat} {zs : List Int} (h : Sl w B 1 A n c (ints zs)) : zs.length = n := by have := h.len; simpa [ints] using this
theorem Sl.icell {w : World} {B : Nat} {A : Option Addr} {n c : Nat} {zs : List Int} (h : Sl w B 1 A n c (ints zs)) {j : Nat} (hj : j < n) :
    ∃ ad x, A = some ad ∧ ad.block < B ∧ zs[j]? = some x ∧ w.cell? (ad.add j) = some (.int .i64 x) := by
  have hl := h.ilen
  have hx : zs[j]? = some (zs[j]'(by omega)) := List.getElem?_eq_getElem (by omega)
  obtain ⟨ad, e, hb, hc⟩ := h.cell (ints_at hx)
  exact ⟨ad, _, e, hb, hx, hc⟩

theorem Sl.itake {w : World} {B : Nat} {A : Option Addr} {n c hi : Nat} {zs : List Int} (h : Sl w B 1 A n c (ints zs)) (hh : hi ≤ n) : Sl w B 1 A hi c (ints (zs.take hi)) := by
  have h1 := h.take hh
  rwa [Nat.mul_one, ints_take] at h1
def I64 (x : Int) : Prop := -9223372036854775808 ≤ x ∧ x ≤ 9223372036854775807
def AllI64 (zs : List Int) : Prop := ∀ x ∈ zs, I64 x
theorem AllI64.at_ {zs : List Int} (h : AllI64 zs) {j : Nat} {x : Int} (hx : zs[j]? = some x) : I64 x := h x (List.mem_of_getElem? hx)

theorem below_on {w W w1 : World} (h : Below w.heap.size w W) (h1 : Below W.heap.size W w1) : Below w.heap.size w w1 := h.trans (h1.mono h.size)
theorem below_alloc {w W : World} (h : Below w.heap.size w W) (o : Obj) : Below w.heap.size w (W.alloc o) := h.alloc h.size o
theorem hide {p : Prop} (h : p) : Hid p := h

theorem below_drewN {B : Nat} {a w : World} (h : Below B a w) (n : Nat) : Below B a (w.drewN n) := ⟨h.os, h.tape, h.output, h.size, h.block⟩
theorem below_set {w W : World} (h : Below w.heap.size w W) {p : Addr} (hp : w.heap.size ≤ p.block) (u : Value) : Below w.heap.size w (W.setCell p u) := h.setCell hp u
def Ret (w : World) (Q : Value → World → Prop) (e : Ending) (w' : World) : Prop := ∃ v, e = .returned v ∧ Below w.heap.size w w' ∧ Q v w'
def Quiet (w : World) (v : Value) (e : Ending) (w' : World) : Prop := e = .returned v ∧ ∃ q, w' = w.drewN q
theorem Quiet.ret {w w' : World} {v : Value} {e : Ending} (h : Quiet w v e w') : e = .returned v ∧ ∃ q, w' = w.drewN q := h
end Go.Proofs.YtjpbjghdplbdcaaGreatDoor
end
section
namespace Go.Proofs.YtjpbjghdplbdcaaGreatDoor
open Go.ChangeShapes Go.WideShapes Go.ChangeAt Go.RowKit
theorem block_lt {w : World} {a : Addr} {v : Value} (h : w.cell? a = some v) : a.block < w.heap.size := by
  rcases Nat.lt_or_ge a.block w.heap.size with hlt | hge
  · exact hlt
  · simp [World.cell?, Array.getElem?_eq_none hge] at h

section
variable {H : Type} {enc : TypeId × Value → H} {P : Program} {w : World} {base : Nat} {sp : Nat → Bool} {held : Bool}
end
end Go.Proofs.YtjpbjghdplbdcaaGreatDoor
end
section
namespace Go.Proofs.YtjpbjghdplbdcaaGreatDoor
def okTo (p : Nat → Bool) : Nat → Bool
  | 0 => true
  | k + 1 => okTo p k && p k
theorem okTo_bad {p : Nat → Bool} {k : Nat} (h : p k = false) : ∀ m, k < m → okTo p m = false
  | 0, hk => by omega
  | m + 1, hk => by
    by_cases e : k = m
    · subst e; simp [okTo, h]
    · simp [okTo, okTo_bad h m (by omega)]
theorem okTo_next {p : Nat → Bool} {k : Nat} (h : okTo p k = true) (hk : p k = true) : okTo p (k + 1) = true := by simp [okTo, h, hk]
theorem okTo_at {p : Nat → Bool} {k : Nat} : ∀ m, okTo p m = true → k < m → p k = true
  | 0, _, hk => by omega
  | m + 1, h, hk => by
    simp only [okTo, Bool.and_eq_true] at h
    by_cases e : k = m
    · subst e; exact h.2
    · exact okTo_at m h.1 (by omega)
theorem okTo_of {p : Nat → Bool} : ∀ m, (∀ k, k < m → p k = true) → okTo p m = true
  | 0, _ => rfl
  | m + 1, h => by simp [okTo, okTo_of m (fun k hk => h k (by omega)), h m (by omega)]
theorem getD_of {α : Type} {l : List α} {k : Nat} {x d : α} (h : l[k]? = some x) : l.getD k d = x := by simp [List.getD, h]
theorem getD_at {l : List Int} {k : Nat} (h : k < l.length) : l[k]? = some (l.getD k 0) := by simp [List.getD, h]

def InB (b : Int) (s : List Int) : Prop := ∀ x ∈ s, 0 ≤ x ∧ x ≤ b
theorem InB.at_ {b : Int} {s : List Int} (h : InB b s) {j : Nat} {x : Int} (hx : s[j]? = some x) : 0 ≤ x ∧ x ≤ b := h x (List.mem_of_getElem? hx)
end Go.Proofs.YtjpbjghdplbdcaaGreatDoor
end
section
namespace Go.Proofs.YtjpbjghdplbdcaaGreatDoor
def hexc (d : Nat) : UInt8 := if d < 10 then UInt8.ofNat (48 + d) else UInt8.ofNat (87 + d)
def isHex (c : UInt8) : Bool := decide (48 ≤ c.toNat ∧ c.toNat ≤ 57 ∨ 97 ≤ c.toNat ∧ c.toNat ≤ 102)
def hexv (c : UInt8) : Nat := if c.toNat ≤ 57 then c.toNat - 48 else c.toNat - 87
theorem hexv_lt {c : UInt8} (h : isHex c = true) : hexv c < 16 := by
  have := of_decide_eq_true h
  unfold hexv
  split <;> omega
theorem u8_eq {a b : UInt8} (h : a.toNat = b.toNat) : a = b := UInt8.toNat_inj.1 h
def digs : Nat → Nat → List UInt8
  | 0, _ => []
  | k + 1, n => digs k (n / 16) ++ [hexc (n % 16)]
theorem digs_len : ∀ k n, (digs k n).length = k
  | 0, _ => rfl
  | k + 1, n => by rw [digs, List.length_append, digs_len k]; rfl
theorem digs_up {n j : Nat} (h : j < 14) : digs (j + 1) (n / 16 ^ (13 - j)) = digs j (n / 16 ^ (14 - j)) ++ [hexc (n / 16 ^ (13 - j) % 16)] := by
  rw [digs, Nat.div_div_eq_div_mul, ← Nat.pow_succ, show (13 - j).succ = 14 - j by omega]
def tz (l : List UInt8) : List UInt8 := (l.reverse.dropWhile (· == 48)).reverse
def thS (l : List UInt8) : List UInt8 := if tz l = [] then [48] else tz l
theorem tz_snoc_zero (l : List UInt8) : tz (l ++ [48]) = tz l := by simp [tz]
theorem tz_snoc {l : List UInt8} {c : UInt8} (h : c ≠ 48) : tz (l ++ [c]) = l ++ [c] := by
  simp [tz, List.dropWhile_cons, h]
theorem tz_zeros (l : List UInt8) : ∀ k, tz (l ++ List.replicate k 48) = tz l
  | 0 => by simp
  | k + 1 => by rw [List.replicate_succ', ← List.append_assoc, tz_snoc_zero, tz_zeros l k]
theorem th_is {l : List UInt8} {k : Nat} (hk : 0 < k) (hl : k ≤ l.length) (hz : ∀ j, k ≤ j → j < l.length → l[j]? = some 48) (he : k = 1 ∨ ∀ c, l[k - 1]? = some c → c ≠ 48) : l.take k = thS l := by
  have h1 : l = l.take k ++ List.replicate (l.length - k) 48 := by
    apply List.ext_getElem?
    intro j
    by_cases hj : j < k
    · rw [List.getElem?_append_left (by rw [List.length_take]; omega), List.getElem?_take_of_lt hj]
    · rw [List.getElem?_append_right (by rw [List.length_take]; omega), List.length_take, Nat.min_eq_left hl]
      by_cases hj2 : j < l.length
      · rw [hz j (by omega) hj2, List.getElem?_replicate, if_pos (by omega)]
      · rw [List.getElem?_eq_none (by omega), List.getElem?_replicate, if_neg (by omega)]
  have h2 : tz l = tz (l.take k) := by
    conv => lhs; rw [h1]
    exact tz_zeros _ _
  obtain ⟨m, rfl⟩ : ∃ m, k = m + 1 := ⟨k - 1, by omega⟩
  obtain ⟨c, hc⟩ : ∃ c, l[m]? = some c := ⟨_, List.getElem?_eq_getElem (by omega)⟩
  have h3 : l.take (m + 1) = l.take m ++ [c] := by rw [List.take_add_one, hc]; rfl
  by_cases e : c = 48
  · subst e
    rcases he with he | he
    · have : m = 0 := by omega
      subst this
      unfold thS
      rw [h2, h3]
      simp [tz]
    · exact absurd rfl (he 48 (by simpa using hc))
  · unfold thS
    rw [h2, h3, tz_snoc e, if_neg (by simp)]
def pv (l : List UInt8) : Nat → Nat
  | 0 => 0
  | i + 1 => pv l i * 16 + hexv (l.getD i 48)
def hexTo (l : List UInt8) (k : Nat) : Bool := okTo (fun i => isHex (l.getD i 48)) k
theorem hexv_48 : hexv 48 = 0 := by decide
theorem isHex_48 : isHex 48 = true := by decide
theorem pv_lt {l : List UInt8} : ∀ i, hexTo l i = true → pv l i < 16 ^ i
  | 0, _ => by simp [pv]
  | i + 1, h => by
    have h1 : hexTo l i = true := okTo_of i fun k hk => okTo_at (i + 1) h (by omega)
    have h2 := hexv_lt (okTo_at (i + 1) h (Nat.lt_succ_self i))
    have := pv_lt i h1
    rw [pv, Nat.pow_succ]
    omega
def endsBad (l : List UInt8) : Bool := decide (1 < l.length) && (l.getD (l.length - 1) 0 == 48)
def thOk (l : List UInt8) : Bool := hexTo l 14 && decide (1 ≤ l.length ∧ l.length ≤ 14) && !endsBad l
def thV (l : List UInt8) : Int := bif thOk l then (pv l 14 : Int) else 0
def thE (l : List UInt8) : Int := bif thOk l then 0 else 3
def thR (l : List UInt8) : Int := bif thOk l then (pv l 14 : Int) else -1
def rvOk (l : List UInt8) : Bool := hexTo l 14 && decide (l.length = 14)
def rvV (l : List UInt8) : Int := bif rvOk l then (pv l 14 : Int) else 0
def rvE (l : List UInt8) : Int := bif rvOk l then 0 else 3
def rvR (l : List UInt8) : Int := bif rvOk l then (pv l 14 : Int) else -1
end Go.Proofs.YtjpbjghdplbdcaaGreatDoor
end
section
namespace Go.Proofs.YtjpbjghdplbdcaaGreatDoor
open Go.RowKit
def inR (x a b : Int) : Bool := decide (a ≤ x ∧ x ≤ b)
theorem inR_yes {x a b : Int} (h : a ≤ x ∧ x ≤ b) : inR x a b = true := by simp [inR, h]
theorem inR_no {x a b : Int} (h : ¬ (a ≤ x ∧ x ≤ b)) : inR x a b = false := by simp only [inR]; exact decide_eq_false h

end Go.Proofs.YtjpbjghdplbdcaaGreatDoor
end
section
namespace Go.Proofs.YtjpbjghdplbdcaaGreatDoor
open Go.RowKit
def isDraw (x : Int) : Bool := inR x 0 72057594037927935
theorem hnum_any (x : Int) (w : World) : Calls Tryz.prog 170 #[.int .i64 x] w fun e w' => e = .returned (.bool (isDraw x)) ∧ w = w' := by
  by_cases h1 : 0 ≤ x
  · by_cases h2 : x ≤ 72057594037927935
    · have E := hide (show isDraw x = true from inR_yes ⟨h1, h2⟩)
      go_enter Tryz.func170, Tryz.ntmps170
      go_wp2_with fail
      go_ret
      exact ⟨by rw [E.out]; first | rfl | (simp; omega), rfl⟩
    · have E := hide (show isDraw x = false from inR_no (x := x) (a := 0) (b := 72057594037927935) (by omega))
      go_enter Tryz.func170, Tryz.ntmps170
      go_wp2_with fail
      go_ret
      exact ⟨by rw [E.out]; first | rfl | (simp; omega), rfl⟩
  · have E := hide (show isDraw x = false from inR_no (x := x) (a := 0) (b := 72057594037927935) (by omega))
    go_enter Tryz.func170, Tryz.ntmps170
    go_wp2_with fail
    go_ret
    exact ⟨by rw [E.out]; first | rfl | (simp; omega), rfl⟩
theorem hnum_is {x : Int} {d : Bool} (h : isDraw x = d) (w : World) : Calls Tryz.prog 170 #[.int .i64 x] w fun e w' => e = .returned (.bool d) ∧ w = w' := by
  have k := hnum_any x w; rw [h] at k; exact k
end Go.Proofs.YtjpbjghdplbdcaaGreatDoor
end
section
namespace Go.Proofs.YtjpbjghdplbdcaaGreatDoor
open Go.RowKit
def tx (l : List UInt8) : ByteArray := ⟨l.toArray⟩
theorem tx_size (l : List UInt8) : (tx l).size = l.length := by simp [tx, ByteArray.size]
theorem tx_get {l : List UInt8} {k : Nat} (h : k < (tx l).size) : (tx l)[k] = l.getD k 48 := by
  have h' : k < l.length := by rwa [tx_size] at h
  show (l.toArray)[k]'(by simpa using h') = _
  simp [List.getD, h']
theorem tx_app (a b : List UInt8) : tx a ++ tx b = tx (a ++ b) := by
  apply ByteArray.ext
  simp [tx, ByteArray.data_append]
theorem tx_take (l : List UInt8) (k : Nat) : (tx l).extract 0 k = tx (l.take k) := by
  apply ByteArray.ext
  simp [tx, ByteArray.data_extract]
def hexs : ByteArray := ⟨#[48, 49, 50, 51, 52, 53, 54, 55, 56, 57, 97, 98, 99, 100, 101, 102]⟩
theorem hex_piece {d : Nat} (h : d < 16) : hexs.extract d (d + 1) = tx [hexc d] := by
  have : ∀ d < 16, (hexs.extract d (d + 1)).data = (tx [hexc d]).data := by decide +kernel
  exact ByteArray.ext (this d h)
theorem i64_and15 (n : Int) : bits .and .i64 n 15 = n % 16 := by
  have h127 : (BitVec.ofInt 64 15).toNat = 2 ^ 4 - 1 := by decide
  have key : (BitVec.ofInt 64 n &&& BitVec.ofInt 64 15).toNat = (n % ((2 ^ 64 : Nat) : Int)).toNat % 2 ^ 4 := by
    rw [BitVec.toNat_and, BitVec.toNat_ofInt, h127, Nat.and_two_pow_sub_one_eq_mod]
  show IntKind.i64.wrap ((BitVec.ofInt 64 n &&& BitVec.ofInt 64 15).toNat : Nat) = n % 16
  rw [key, IntKind.wrap_i64]
  omega

def dig (n j : Nat) : Nat := n / 16 ^ (13 - j) % 16
theorem dig_lt (n j : Nat) : dig n j < 16 := Nat.mod_lt _ (by decide)
theorem dig_is {n j : Nat} (h : j < 14) : ((n : Int) / 2 ^ (52 - 4 * j)) % 16 = (dig n j : Int) := by
  have e : (2 : Nat) ^ (52 - 4 * j) = 16 ^ (13 - j) := by
    rw [show (16 : Nat) = 2 ^ 4 from rfl, ← Nat.pow_mul, show 4 * (13 - j) = 52 - 4 * j by omega]
  unfold dig
  rw [← e, Int.natCast_emod, Int.natCast_ediv, Int.natCast_pow]
  rfl
def upTo (n j : Nat) : ByteArray := tx (digs j (n / 16 ^ (14 - j)))
theorem upTo_next {n j : Nat} (h : j < 14) : upTo n j ++ hexs.extract (dig n j) (dig n j + 1) = upTo n (j + 1) := by
  rw [hex_piece (dig_lt n j)]
  unfold upTo
  rw [tx_app, show 14 - (j + 1) = 13 - j by omega, digs_up h]
  rfl
theorem upTo_size (n j : Nat) : (upTo n j).size = j := by rw [upTo, tx_size, digs_len]
theorem hexs_size {d : Nat} (h : d < 16) : (hexs.extract d (d + 1)).size = 1 := by rw [hex_piece h]; rfl
theorem upTo_all (n : Nat) : upTo n 14 = tx (digs 14 n) := by simp [upTo]

theorem digits_any (n : Nat) (w : World) : Calls Tryz.prog 171 #[.int .i64 n] w fun e w' => e = .returned (.string (tx (digs 14 n))) ∧ ∃ q, w' = w.drewN q := by
  go_enter Tryz.func171, Tryz.ntmps171
  go_wp2_with fail
  go_loopw [3, 4] (fun v i wr => ∃ j : Nat, j ≤ 14 ∧ i = .int .i64 (52 - 4 * (j : Int)) ∧ v = .string (upTo n j) ∧ ∃ q, wr = w.drewN q) (fun _ i _ => (intOf i + 4).toNat)
  case atStart => exact ⟨0, by omega, rfl, rfl, 0, rfl⟩
  case round =>
    obtain ⟨j, hj, rfl, rfl, q, rfl⟩ := hrel
    by_cases hlt : j < 14
    · obtain ⟨m, hm⟩ : ∃ m : Nat, 52 - 4 * j = m := ⟨_, rfl⟩
      have e := i64_and15 ((n : Int) / 2 ^ (52 - 4 * j))
      rw [dig_is hlt] at e
      have hd := dig_lt n j
      have hn := upTo_next (n := n) hlt
      rw [hm] at e
      rw [show (52 - 4 * (j : Int)) = (m : Int) by omega]
      have ms : min m 64 = m := by omega
      have hu := upTo_size n j
      have hc := hexs_size hd
      have hx : ∃ C, hexs.extract (dig n j) (dig n j + 1) = C := ⟨_, rfl⟩
      obtain ⟨C, hx⟩ := hx
      rw [hx] at hn hc
      unfold hexs at hx
      generalize upTo n j = u at hn hu ⊢
      obtain ⟨u', hu'⟩ : ∃ u', upTo n (j + 1) = u' := ⟨_, rfl⟩
      rw [hu'] at hn
      have HN := hide hu'
      clear hu'
      generalize dig n j = d at e hd hx
      go_upto_region 5 with fail
      go_quiet (fail)
      go_wp2_with fail
      go_round
      case rel => exact ⟨j + 1, by omega, by first | rfl | (congr 1; omega), by first | rfl | (rw [HN.out]), _, rfl⟩
      case measure => simp [intOf]; omega
    · obtain rfl : j = 14 := by omega
      go_wp2_with fail
      go_ret
      rw [upTo_all]
      exact ⟨rfl, q, rfl⟩

def strLen : Value → Nat
  | .string s => s.size
  | _ => 0
set_option maxRecDepth 20000 in
theorem strip_any {l : List UInt8} (hl : l.length = 14) {n : Int} (hd : isDraw n = true)
    (H0 : ∀ w : World, Calls Tryz.prog 171 #[.int .i64 n] w fun e w' => e = .returned (.string (tx l)) ∧ ∃ q, w' = w.drewN q) (w : World) :
    Calls Tryz.prog 102 #[.int .i64 n] w fun e w' => e = .returned (.tuple #[.string (tx (thS l)), .int .i64 0]) ∧ ∃ q, w' = w.drewN q := by
  have HD := hide hd
  have H1 := hide H0
  have HL := hide hl
  clear hd H0 hl
  go_enter Tryz.func102, Tryz.ntmps102
  go_wp2_with fail
  refine (hnum_is HD.out _).mono ?_
  rintro e w' ⟨rfl, rfl⟩
  go_wp2_with fail
  refine (H1.out _).mono ?_
  rintro e w' ⟨rfl, q, rfl⟩
  go_wp2_with fail
  go_loop [4] (fun v => ∃ k : Nat, 0 < k ∧ k ≤ 14 ∧ v = .string (tx (l.take k)) ∧ ∀ j, k ≤ j → j < 14 → l[j]? = some 48) (fun v => strLen v)
  case atStart =>
    refine ⟨14, by omega, by omega, ?_, fun j h1 h2 => by omega⟩
    rw [List.take_of_length_le (by rw [HL.out]; exact Nat.le_refl _)]
  case round =>
    obtain ⟨k, h0, hk, rfl, hz⟩ := hrel
    obtain ⟨m, rfl⟩ : ∃ m, k = m + 1 := ⟨k - 1, by omega⟩
    have HZ := hide hz
    clear hz h0
    obtain ⟨c, hc⟩ : ∃ c, l[m]? = some c := ⟨_, List.getElem?_eq_getElem (by rw [HL.out]; omega)⟩
    obtain ⟨S, hS⟩ : ∃ S, tx (l.take (m + 1)) = S := ⟨_, rfl⟩
    have hs : S.size = m + 1 := by rw [← hS, tx_size, List.length_take, HL.out]; omega
    have hb : ∀ h : m < S.size, S[m]'h = c := by
      subst hS
      intro h
      rw [tx_get h]
      simp [List.getD, hc]
    have hx : S.extract 0 m = tx (l.take m) := by rw [← hS, tx_take, List.take_take, Nat.min_eq_left (by omega)]
    have HS := hide hS
    have HC := hide hc
    rw [hS]
    clear hS hc
    by_cases hm : 0 < m
    · by_cases e : c = 48
      · have ce : (c.toNat : Int) = 48 := by rw [e]; rfl
        have E := hide e
        clear e
        go_wp2_with fail
        refine ⟨⟨m, hm, by omega, rfl, fun j h1 h2 => ?_⟩, ?_⟩
        · by_cases hj : j = m
          · subst hj; rw [HC.out, E.out]
          · exact HZ.out j (by omega) h2
        · show (tx (l.take m)).size < S.size
          rw [tx_size, List.length_take]
          omega
      · have ce : ((c.toNat : Int) == 48) = false := by
          have : ¬ (c.toNat : Int) = 48 := fun h => e (u8_eq (by have : c.toNat = 48 := (by omega); rw [this]; rfl))
          simpa using this
        have E := hide e
        clear e
        go_wp2_with fail
        go_ret2
        refine ⟨?_, q, rfl⟩
        rw [← HS.out, th_is (k := m + 1) (by omega) (by rw [HL.out]; omega) (by rw [HL.out]; exact HZ.out) (.inr (by simpa [HC.out] using E.out))]
        rfl
    · obtain rfl : m = 0 := by omega
      go_wp2_with fail
      go_ret2
      refine ⟨?_, q, rfl⟩
      rw [← HS.out, th_is (k := 1) (by omega) (by rw [HL.out]; omega) (by rw [HL.out]; exact HZ.out) (.inl rfl)]
      rfl
theorem th_any (n : Nat) (hd : isDraw n = true) (w : World) :
    Calls Tryz.prog 102 #[.int .i64 n] w fun e w' => e = .returned (.tuple #[.string (tx (thS (digs 14 n))), .int .i64 0]) ∧ ∃ q, w' = w.drewN q := strip_any (digs_len _ _) hd (digits_any n) w
theorem th_no {n : Int} (hd : isDraw n = false) (w : World) : Calls Tryz.prog 102 #[.int .i64 n] w fun e w' => e = .returned (.tuple #[.string ⟨#[]⟩, .int .i64 1]) ∧ w = w' := by
  have HD := hide hd
  clear hd
  go_enter Tryz.func102, Tryz.ntmps102
  go_wp2_with fail
  refine (hnum_is HD.out _).mono ?_
  rintro e w' ⟨rfl, rfl⟩
  go_wp2_with fail
  go_ret2
  exact ⟨rfl, rfl⟩
theorem rv_any (n : Nat) (hd : isDraw n = true) (w : World) : Calls Tryz.prog 177 #[.int .i64 n] w fun e w' => e = .returned (.tuple #[.string (tx (digs 14 n)), .int .i64 0]) ∧ ∃ q, w' = w.drewN q := by
  have HD := hide hd
  clear hd
  go_enter Tryz.func177, Tryz.ntmps177
  go_wp2_with fail
  refine (hnum_is HD.out _).mono ?_
  rintro e w' ⟨rfl, rfl⟩
  go_wp2_with fail
  refine (digits_any n _).mono ?_
  rintro e w' ⟨rfl, q, rfl⟩
  go_wp2_with fail
  go_ret2
  exact ⟨rfl, q, rfl⟩
end Go.Proofs.YtjpbjghdplbdcaaGreatDoor
end
