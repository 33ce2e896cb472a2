/-
  Words for memory that all proofs of this seat share: a slice value that reads as a list of cells; what a call's own row reads as. No condition; no program is named here.
-/
import Derived.Below
import Derived.Laws.OwnMore
import Derived.Deep.Draws
import Derived.OwnWalk
namespace Go.Proofs.YtfopihlbdceepaaGreat
open Go.RowKit

theorem add_block (a : Addr) (n : Nat) : (a.add n).block = a.block := by unfold Addr.add; split <;> rfl
theorem add_add (a : Addr) (i j : Nat) : (a.add i).add j = a.add (i + j) := by
  unfold Addr.add
  by_cases hi : i = 0 <;> by_cases hj : j = 0 <;> simp [hi, hj, Nat.add_assoc]
theorem add_lit0 (g j : Nat) : (⟨g, 0, none⟩ : Addr).add j = ⟨g, j, none⟩ := by unfold Addr.add; split <;> simp_all

/-- The slice value '.slice A n c' reads as the n * size cells xs, all of them in blocks below B. -/
structure Sl (w : World) (B size : Nat) (A : Option Addr) (n c : Nat) (xs : List Value) : Prop where
  len : xs.length = n * size
  cap : n ≤ c
  max : c ≤ maxLen
  nul : A = none → c = 0
  at_ : 0 < n → ∃ ad, A = some ad ∧ ad.block < B ∧ ∀ j u, xs[j]? = some u → w.cell? (ad.add j) = some u

section
variable {w w' : World} {B B' size n c : Nat} {A : Option Addr} {xs : List Value}

theorem Sl.nil (w : World) (B size : Nat) : Sl w B size none 0 0 [] := ⟨by simp, Nat.le_refl _, Nat.zero_le _, fun _ => rfl, fun h => absurd h (by omega)⟩
theorem Sl.keep (h : Sl w B size A n c xs) (hk : ∀ p : Addr, p.block < B → w'.cell? p = w.cell? p) : Sl w' B size A n c xs :=
  ⟨h.len, h.cap, h.max, h.nul, fun hn => by
    obtain ⟨ad, e, hb, hc⟩ := h.at_ hn
    exact ⟨ad, e, hb, fun j u hu => (hk _ (by rw [add_block]; exact hb)).trans (hc j u hu)⟩⟩
theorem Sl.more (h : Sl w B size A n c xs) (hB : B ≤ B') : Sl w B' size A n c xs :=
  ⟨h.len, h.cap, h.max, h.nul, fun hn => by
    obtain ⟨ad, e, hb, hc⟩ := h.at_ hn
    exact ⟨ad, e, by omega, hc⟩⟩
theorem Sl.below (h : Sl w B size A n c xs) (hb : Below B w w') : Sl w' B size A n c xs := h.keep fun _ hp => hb.cell hp
theorem Sl.drew (h : Sl w B size A n c xs) : Sl w.drew B size A n c xs := h.keep fun _ _ => rfl
theorem Sl.drewN (h : Sl w B size A n c xs) (k : Nat) : Sl (w.drewN k) B size A n c xs := h.keep fun _ _ => rfl
/-- The call's heap has grown, nothing below has turned: the slice reads as before, and lies below the new heap's end. -/
theorem Sl.on (h : Sl w w.heap.size size A n c xs) (hb : Below w.heap.size w w') : Sl w' w'.heap.size size A n c xs := (h.below hb).more hb.size
theorem Sl.alloc (h : Sl w B size A n c xs) (hB : B ≤ w.heap.size) (o : Obj) : Sl (w.alloc o) B size A n c xs := h.keep fun p hp => World.cell?_alloc_lt w o p (by omega)
theorem Sl.len_max (h : Sl w B size A n c xs) : n ≤ 9223372036854775807 := by have h1 := h.cap; have h2 := h.max; simp only [maxLen] at h2; omega
/-- One cell of the slice. -/
theorem Sl.cell (h : Sl w B size A n c xs) {j : Nat} {u : Value} (hj : xs[j]? = some u) : ∃ ad, A = some ad ∧ ad.block < B ∧ w.cell? (ad.add j) = some u := by
  have hl : j < n * size := by rw [← h.len]; exact (List.getElem?_eq_some_iff.1 hj).1
  have hn : 0 < n := by
    rcases Nat.eq_zero_or_pos n with h0 | h0
    · subst h0; simp at hl
    · exact h0
  obtain ⟨ad, e, hb, hc⟩ := h.at_ hn
  exact ⟨ad, e, hb, hc j u hj⟩
/-- A row of the call's own reads as a slice. -/
theorem Sl.of_own {base : Nat} {e : TypeId} {v : Value} (h : w.ownsRow base e size v n xs) : ∃ A c, v = .slice A n c ∧ Sl w w.heap.size size A n c xs := by
  rcases h.2 with ⟨rfl, h0⟩ | ⟨g, cap, cur, rfl, hg, hh, hnc, hcm, hcs, ht⟩
  · refine ⟨none, 0, by rw [h0], ?_⟩
    have hx : xs = [] := List.eq_nil_of_length_eq_zero (by rw [h.1, h0]; simp)
    rw [hx, h0]
    exact Sl.nil w _ size
  · refine ⟨some ⟨g, 0, none⟩, cap, rfl, h.1, hnc, hcm, (fun hA => by cases hA), fun hn => ⟨_, rfl, (Array.getElem?_eq_some_iff.1 hh).1, fun j u hu => h.cells (g := g) rfl j u hu⟩⟩
/-- A cut 's[lo:hi]': its address keeps the model's 'if'. -/
theorem Sl.cut (h : Sl w B size A n c xs) {lo hi : Nat} (hl : lo ≤ hi) (hh : hi ≤ n) :
    Sl w B size (if c = lo then A else A.map (·.add (lo * size))) (hi - lo) (c - lo) ((xs.drop (lo * size)).take ((hi - lo) * size)) := by
  have h1 := h.cap
  have h2 := h.max
  refine ⟨?_, by omega, by omega, fun hA => ?_, fun hn => ?_⟩
  · rw [List.length_take, List.length_drop, h.len, ← Nat.sub_mul, Nat.min_eq_left]
    exact Nat.mul_le_mul_right _ (by omega)
  · split at hA
    · omega
    · have := h.nul (by simpa using hA); omega
  · obtain ⟨ad, rfl, hb, hcell⟩ := h.at_ (by omega)
    rw [if_neg (by omega)]
    refine ⟨ad.add (lo * size), rfl, by rw [add_block]; exact hb, fun j u hu => ?_⟩
    rw [add_add]
    rw [List.getElem?_take] at hu
    split at hu
    · exact hcell _ u (by rw [← hu, List.getElem?_drop])
    · cases hu
/-- A cut 's[:hi]' keeps the address. -/
theorem Sl.take (h : Sl w B size A n c xs) {hi : Nat} (hh : hi ≤ n) : Sl w B size A hi c (xs.take (hi * size)) := by
  have h1 := h.cap
  refine ⟨?_, by omega, h.max, h.nul, fun hn => ?_⟩
  · rw [List.length_take, h.len, Nat.min_eq_left]
    exact Nat.mul_le_mul_right _ (by omega)
  · obtain ⟨ad, rfl, hb, hcell⟩ := h.at_ (by omega)
    refine ⟨ad, rfl, hb, fun j u hu => ?_⟩
    rw [List.getElem?_take] at hu
    split at hu
    · exact hcell _ u hu
    · cases hu
/-- Behind draws and new blocks. -/
theorem Sl.upd (h : Sl w B size A n c xs) (hb : Below w.heap.size w w') (hB : B ≤ w.heap.size) (hB' : B ≤ B') : Sl w' B' size A n c xs := (h.below (hb.mono hB)).more hB'
end

/-- Numbers as cells. -/
def ints (zs : List Int) : List Value := zs.map (Value.int .i64)
theorem ints_len (zs : List Int) : (ints zs).length = zs.length := by simp [ints]
theorem ints_at {zs : List Int} {j : Nat} {x : Int} (h : zs[j]? = some x) : (ints zs)[j]? = some (.int .i64 x) := by simp [ints, h]
theorem ints_append (a b : List Int) : ints (a ++ b) = ints a ++ ints b := by simp [ints]
theorem ints_one (zs : List Int) : ∀ u ∈ ints zs, u.oneCell' = true := ints_oneCell .i64 zs
theorem ints_getElem? (zs : List Int) (j : Nat) : (ints zs)[j]? = zs[j]?.map (Value.int .i64) := by simp [ints]
theorem ints_set (zs : List Int) (k : Nat) (x : Int) : ints (zs.set k x) = (ints zs).set k (.int .i64 x) := by simp [ints, List.map_set]
theorem ints_take (zs : List Int) (k : Nat) : (ints zs).take k = ints (zs.take k) := by simp [ints, List.map_take]
theorem ints_drop (zs : List Int) (k : Nat) : (ints zs).drop k = ints (zs.drop k) := by simp [ints, List.map_drop]
/-- Slices of numbers. -/
abbrev Si (w : World) (A : Option Addr) (n c : Nat) (zs : List Int) : Prop := Sl w w.heap.size 1 A n c (ints zs)
theorem Sl.ilen {w : World} {B : Nat} {A : Option Addr} {n c : Nat} {zs : List Int} (h : Sl w B 1 A n c (ints zs)) : zs.length = n := by have := h.len; simpa [ints] using this
theorem Sl.icell {w : World} {B : Nat} {A : Option Addr} {n c : Nat} {zs : List Int} (h : Sl w B 1 A n c (ints zs)) {j : Nat} (hj : j < n) :
    ∃ ad x, A = some ad ∧ ad.block < B ∧ zs[j]? = some x ∧ w.cell? (ad.add j) = some (.int .i64 x) := by
  have hl := h.ilen
  have hx : zs[j]? = some (zs[j]'(by omega)) := List.getElem?_eq_getElem (by omega)
  obtain ⟨ad, e, hb, hc⟩ := h.cell (ints_at hx)
  exact ⟨ad, _, e, hb, hx, hc⟩

theorem Sl.itake {w : World} {B : Nat} {A : Option Addr} {n c hi : Nat} {zs : List Int} (h : Sl w B 1 A n c (ints zs)) (hh : hi ≤ n) : Sl w B 1 A hi c (ints (zs.take hi)) := by
  have h1 := h.take hh
  rwa [Nat.mul_one, ints_take] at h1
/-- The numbers are Go ints. -/
def I64 (x : Int) : Prop := -9223372036854775808 ≤ x ∧ x ≤ 9223372036854775807
def AllI64 (zs : List Int) : Prop := ∀ x ∈ zs, I64 x
theorem AllI64.at_ {zs : List Int} (h : AllI64 zs) {j : Nat} {x : Int} (hx : zs[j]? = some x) : I64 x := h x (List.mem_of_getElem? hx)

/-- One call behind another: old memory is as it was. -/
theorem below_on {w W w1 : World} (h : Below w.heap.size w W) (h1 : Below W.heap.size W w1) : Below w.heap.size w w1 := h.trans (h1.mono h.size)
theorem below_alloc {w W : World} (h : Below w.heap.size w W) (o : Obj) : Below w.heap.size w (W.alloc o) := h.alloc h.size o
theorem keep_cell {w W : World} {ad : Addr} {j : Nat} {v : Value} (hb : ad.block < w.heap.size) (hc : w.cell? (ad.add j) = some v) (h : Below w.heap.size w W) : Below w.heap.size w W ∧ W.cell? (ad.add j) = some v :=
  ⟨h, (h.cell (by rw [add_block]; exact hb)).trans hc⟩
theorem and_below {A B : Prop} (a : A) (b : A → B) : A ∧ B := ⟨a, b a⟩
theorem hide {p : Prop} (h : p) : Hid p := h

theorem below_drewN {B : Nat} {a w : World} (h : Below B a w) (n : Nat) : Below B a (w.drewN n) := ⟨h.os, h.tape, h.output, h.size, h.block⟩
theorem below_of_drawn {w w' : World} {q : Nat} (h : w' = w.drewN q) : Below w.heap.size w w' := by subst h; exact below_drewN (Below.refl _ _) q
theorem below_set {w W : World} (h : Below w.heap.size w W) {p : Addr} (hp : w.heap.size ≤ p.block) (u : Value) : Below w.heap.size w (W.setCell p u) := h.setCell hp u
/-- What a call leaves: a value v of which Q holds, old memory as it was. -/
def Ret (w : World) (Q : Value → World → Prop) (e : Ending) (w' : World) : Prop := ∃ v, e = .returned v ∧ Below w.heap.size w w' ∧ Q v w'
/-- What a call leaves that only reads: the value; some draws. -/
def Quiet (w : World) (v : Value) (e : Ending) (w' : World) : Prop := e = .returned v ∧ ∃ q, w' = w.drewN q
theorem Quiet.ret {w w' : World} {v : Value} {e : Ending} (h : Quiet w v e w') : e = .returned v ∧ ∃ q, w' = w.drewN q := h
end Go.Proofs.YtfopihlbdceepaaGreat
