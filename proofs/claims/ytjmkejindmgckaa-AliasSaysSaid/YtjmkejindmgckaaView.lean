/-
  A slice into a block of the call's own, from anywhere in that block. Conditions: those that each lemma names; no program is named here.
-/
import Derived.Test.YtjmkejindmgckaaOwn2
namespace Go.Proofs.Ytjmkejindmgckaa
open Go.RowKit

structure Vw (w : World) (B : Nat) (e : TypeId) (size : Nat) (A : Option Addr) (n c : Nat) (xs : List Value) : Prop where
  len : xs.length = n * size
  cap : n ≤ c
  max : c ≤ maxLen
  at_ : (A = none ∧ n = 0 ∧ c = 0) ∨ ∃ g o cur, A = some ⟨g, o, none⟩ ∧ B ≤ g ∧ w.heap[g]? = some (.cells cur e (0, 0)) ∧ ∀ (j : Nat) (u : Value), xs[j]? = some u → cur[o + j]? = some u
section
variable {w w' : World} {B size n c g o : Nat} {e t : TypeId} {A A' : Option Addr} {xs : List Value}
theorem Own.vw (h : Own w B e size A n c xs) : Vw w B e size A n c xs := by
  refine ⟨h.len, h.sl.cap, h.sl.max, ?_⟩
  rcases h.2 with ⟨hv, h0⟩ | ⟨g, cap, cur, hv, hb, hh, h1, h2, h3, h4⟩
  · injection hv with hv e2 e3
    exact .inl ⟨hv, h0, e3⟩
  · injection hv with hv
    refine .inr ⟨g, 0, cur, hv, hb, hh, fun j u hu => ?_⟩
    rw [← h4] at hu
    have hj := (List.getElem?_eq_some_iff.1 hu).1
    rw [List.length_take] at hj
    rw [List.getElem?_take_of_lt (by omega)] at hu
    rw [Nat.zero_add, ← Array.getElem?_toList]
    exact hu
theorem Vw.nil (w : World) (B : Nat) (e : TypeId) (size : Nat) : Vw w B e size none 0 0 [] := ⟨by simp, Nat.le_refl _, Nat.zero_le _, .inl ⟨rfl, rfl, rfl⟩⟩
theorem Vw.keep (h : Vw w B e size A n c xs) (hk : ∀ g, blockOf A = some g → B ≤ g → g < w.heap.size → w'.heap[g]? = w.heap[g]?) : Vw w' B e size A n c xs := by
  refine ⟨h.len, h.cap, h.max, ?_⟩
  rcases h.at_ with h1 | ⟨g, o, cur, hv, hb, hh, hc⟩
  · exact .inl h1
  · exact .inr ⟨g, o, cur, hv, hb, (hk g (by rw [hv]; rfl) hb (Array.getElem?_eq_some_iff.1 hh).1).trans hh, hc⟩
theorem Vw.drew (h : Vw w B e size A n c xs) : Vw w.drew B e size A n c xs := ⟨h.len, h.cap, h.max, h.at_⟩
theorem Vw.drewN (h : Vw w B e size A n c xs) (k : Nat) : Vw (w.drewN k) B e size A n c xs := ⟨h.len, h.cap, h.max, h.at_⟩
theorem Vw.alloc (h : Vw w B e size A n c xs) (x : Obj) : Vw (w.alloc x) B e size A n c xs := h.keep fun g _ _ hl => Below.heap_alloc w x g hl
theorem Vw.low (h : Vw w B e size A n c xs) {p : Addr} (hp : p.block < B) (u : Value) : Vw (w.setCell p u) B e size A n c xs := h.keep fun g _ hb _ => Below.heap_setCell w p u g (by omega)
theorem Vw.far (h : Vw w B e size A n c xs) {p : Addr} (hp : blockOf A ≠ some p.block) (u : Value) : Vw (w.setCell p u) B e size A n c xs := h.keep fun g hg _ _ => Below.heap_setCell w p u g (fun e => hp (by rw [hg, e]))
theorem Vw.grown {row : Option Nat} (h : Vw w B e size A n c xs) (hg : w.grownBy w' row) (hr : ∀ g, blockOf A = some g → row ≠ some g) : Vw w' B e size A n c xs := h.keep fun g hA _ hl => hg.block g hl (fun e => hr g hA e.symm)
theorem Vw.grown_apart {A2 A2' : Option Addr} {b2 size2 n2 c2 : Nat} {e2 : TypeId} {xs2 : List Value} (h : Vw w B e size A n c xs) (ap : Apped w w' b2 e2 size2 A2 A2' n2 c2 xs2) (hap : Apart A2 A) : Vw w' B e size A n c xs :=
  h.grown ap.grow fun g hA he => hap g he hA
theorem Vw.below {b : Nat} (h : Vw w B e size A n c xs) (hb : Below b w w') (hs : w.heap.size ≤ b) : Vw w' B e size A n c xs := h.keep fun g _ _ hl => hb.block g (by omega)
theorem Vw.mono (h : Vw w B e size A n c xs) {B' : Nat} (hb : B' ≤ B) : Vw w B' e size A n c xs := by
  refine ⟨h.len, h.cap, h.max, ?_⟩
  rcases h.at_ with h1 | ⟨g, o, cur, hv, hb2, hh, hc⟩
  · exact .inl h1
  · exact .inr ⟨g, o, cur, hv, by omega, hh, hc⟩
theorem Vw.addr (h : Vw w B e size A n c xs) (hn : 0 < n) : ∃ g o, A = some ⟨g, o, none⟩ ∧ B ≤ g ∧ g < w.heap.size := by
  rcases h.at_ with ⟨_, h1, _⟩ | ⟨g, o, cur, hv, hb, hh, hc⟩
  · omega
  · exact ⟨g, o, hv, hb, (Array.getElem?_eq_some_iff.1 hh).1⟩
theorem Vw.cell (h : Vw w B e size (some ⟨g, o, none⟩) n c xs) {j : Nat} {u : Value} (hu : xs[j]? = some u) : w.cell? ⟨g, o + j, none⟩ = some u := by
  rcases h.at_ with ⟨h1, _⟩ | ⟨g', o', cur, hv, hb, hh, hc⟩
  · cases h1
  · injection hv with hv
    injection hv with e1 e2
    subst e1; subst e2
    rw [cell_of_row w g (o + j) cur e (0, 0) hh]
    exact hc j u hu
theorem Vw.free (h : Vw w B e size (some ⟨g, o, none⟩) n c xs) (j : Nat) : w.frozen? ⟨g, j, none⟩ = false := by
  rcases h.at_ with ⟨h1, _⟩ | ⟨g', o', cur, hv, hb, hh, hc⟩
  · cases h1
  · injection hv with hv
    injection hv with e1 e2
    subst e1
    exact frozen_of_row w g j cur e hh
theorem Vw.set (h : Vw w B e size (some ⟨g, o, none⟩) n c xs) (j : Nat) (u : Value) : Vw (w.setCell ⟨g, o + j, none⟩ u) B e size (some ⟨g, o, none⟩) n c (xs.set j u) := by
  rcases h.at_ with ⟨h1, _⟩ | ⟨g', o', cur, hv, hb, hh, hc⟩
  · cases h1
  · injection hv with hv
    injection hv with e1 e2
    subst e1; subst e2
    refine ⟨by rw [List.length_set]; exact h.len, h.cap, h.max, .inr ⟨g, o, cur.setIfInBounds (o + j) u, rfl, hb, heap_setCell_same w g (o + j) cur e u hh, fun k v hv => ?_⟩⟩
    by_cases ek : j = k
    · subst ek
      have hl := (List.getElem?_eq_some_iff.1 hv).1
      rw [List.length_set] at hl
      rw [List.getElem?_set_self hl] at hv
      have h2 := hc j _ (List.getElem?_eq_getElem hl)
      have h3 := (Array.getElem?_eq_some_iff.1 h2).1
      rw [Array.getElem?_setIfInBounds_self_of_lt h3]
      exact hv
    · rw [List.getElem?_set_ne ek] at hv
      rw [Array.getElem?_setIfInBounds_ne (by omega)]
      exact hc k v hv
theorem Vw.sl (h : Vw w B e size A n c xs) (hs : 0 < size) : Sl w w.heap.size size A n c xs := by
  refine ⟨h.len, h.cap, h.max, fun hA => ?_, fun hn => ?_⟩
  · rcases h.at_ with ⟨_, _, h3⟩ | ⟨g, o, cur, hv, _⟩
    · exact h3
    · rw [hA] at hv; cases hv
  · rcases h.at_ with ⟨_, h1, _⟩ | ⟨g, o, cur, hv, hb, hh, hc⟩
    · omega
    · refine ⟨⟨g, o, none⟩, hv, (Array.getElem?_eq_some_iff.1 hh).1, fun j u hu => ?_⟩
      have h2 := hc j u hu
      have e2 : (⟨g, o, none⟩ : Addr).add j = ⟨g, o + j, none⟩ := by unfold Addr.add; split <;> simp_all
      rw [e2, cell_of_row w g (o + j) cur e (0, 0) hh]
      exact h2
theorem Vw.from_ (h : Vw w B e size A n c xs) {lo : Nat} (hl : lo ≤ n) : Vw w B e size (if c = lo then A else A.map (·.add (lo * size))) (n - lo) (c - lo) (xs.drop (lo * size)) := by
  have h1 := h.cap
  have h2 := h.max
  refine ⟨by rw [List.length_drop, h.len, Nat.sub_mul], by omega, by omega, ?_⟩
  rcases h.at_ with ⟨a1, a2, a3⟩ | ⟨g, o, cur, hv, hb, hh, hc⟩
  · subst a1; subst a2; subst a3
    obtain rfl : lo = 0 := by omega
    exact .inl ⟨by simp, rfl, rfl⟩
  · subst hv
    by_cases ec : c = lo
    · rw [if_pos ec]
      have hd : xs.drop (lo * size) = [] := by
        apply List.drop_of_length_le
        rw [h.len]
        exact Nat.mul_le_mul_right _ (by omega)
      rw [hd]
      exact .inr ⟨g, o, cur, rfl, hb, hh, fun j u hu => by simp at hu⟩
    · rw [if_neg ec]
      refine .inr ⟨g, o + lo * size, cur, ?_, hb, hh, fun j u hu => ?_⟩
      · have e2 : (⟨g, o, none⟩ : Addr).add (lo * size) = ⟨g, o + lo * size, none⟩ := by unfold Addr.add; split <;> simp_all
        rw [Option.map_some, e2]
      · rw [List.getElem?_drop] at hu
        rw [Nat.add_assoc]
        exact hc _ u hu
end
end Go.Proofs.Ytjmkejindmgckaa
