/-
  A slice of rows of the call's own, each in a block of its own: reading, storing, appending to it. Conditions: those that each lemma names.
-/
import Derived.Test.YtjmkejindmgckaaOpen3
import Derived.Test.YtjmkejindmgckaaOwn2
import Derived.Test.YtjmkejindmgckaaClone
import Derived.Test.YtjmkejindmgckaaPlain
namespace Go.Proofs.Ytjmkejindmgckaa
open Go.RowKit

theorem T_rows : ElemT Try.prog 63 22 (.slice none 0 0) 1 24 := ⟨Try.underlying63, by kernel_rfl, rfl, by decide⟩
structure Ot (w : World) (B : Nat) (A : Option Addr) (n c : Nat) (os : List Row) : Prop where
  s : Own w B 22 1 A n c (os.map rowV)
  r : ∀ (i : Nat) (o : Row), os[i]? = some o → Own w B 3 1 o.1 o.2.1 o.2.2.1 (ints o.2.2.2)
  d : ∀ (i j : Nat) (o p : Row), i ≠ j → os[i]? = some o → os[j]? = some p → Apart o.1 p.1
section
variable {w w' : World} {B n c : Nat} {A : Option Addr} {os : List Row}
theorem Ot.nil (w : World) (B : Nat) : Ot w B none 0 0 [] := ⟨Own.nil _ _ _ _, fun i o h => by simp at h, fun i j o p _ h => by simp at h⟩
theorem Ot.len (h : Ot w B A n c os) : os.length = n := by have := h.s.len; simpa using this
theorem Ot.drew (h : Ot w B A n c os) : Ot w.drew B A n c os := ⟨h.s.drew, fun i o ho => (h.r i o ho).drew, h.d⟩
theorem Ot.drewN (h : Ot w B A n c os) (k : Nat) : Ot (w.drewN k) B A n c os := ⟨h.s.drewN k, fun i o ho => (h.r i o ho).drewN k, h.d⟩
theorem Ot.alloc (h : Ot w B A n c os) (x : Obj) : Ot (w.alloc x) B A n c os := ⟨h.s.alloc x, fun i o ho => (h.r i o ho).alloc x, h.d⟩
theorem Ot.below {b : Nat} (h : Ot w B A n c os) (hb : Below b w w') (hB : w.heap.size ≤ b) : Ot w' B A n c os := ⟨h.s.below hb hB, fun i o ho => (h.r i o ho).below hb hB, h.d⟩
theorem Ot.low (h : Ot w B A n c os) {p : Addr} (hp : p.block < B) (u : Value) : Ot (w.setCell p u) B A n c os := ⟨h.s.low hp u, fun i o ho => (h.r i o ho).low hp u, h.d⟩
theorem Ot.mono (h : Ot w B A n c os) {b : Nat} (hb : b ≤ B) : Ot w b A n c os := ⟨h.s.mono hb, fun i o ho => (h.r i o ho).mono hb, h.d⟩
theorem Ot.ss (h : Ot w B A n c os) : Ss w A n c os := ⟨h.s.sl, fun o ho => by
  obtain ⟨i, hi⟩ := List.getElem?_of_mem ho
  exact (h.r i o hi).sl⟩
/-- A row more: one that was made last. -/
theorem Ot.push {A' : Option Addr} {c' : Nat} {o : Row} {W : Nat} (h : Ot w B A n c os) (hW : ∀ p ∈ os, ∀ g, blockOf p.1 = some g → g < W) (ho : Own w W 3 1 o.1 o.2.1 o.2.2.1 (ints o.2.2.2)) (hBW : B ≤ W) (ap : Apped w w' B 22 1 A A' (n + 1) c' (os.map rowV ++ [rowV o])) :
    Ot w' B A' (n + 1) c' (os ++ [o]) := by
  have hne : 22 ≠ 3 := by decide
  have hr : ∀ (p : Row), Own w B 3 1 p.1 p.2.1 p.2.2.1 (ints p.2.2.2) → Own w' B 3 1 p.1 p.2.1 p.2.2.1 (ints p.2.2.2) := fun p hp => hp.grown_apart ap (Own.apart_type h.s hp hne)
  have hap : ∀ p ∈ os, Apart p.1 o.1 := fun p hp g hg hgo => by
    have h1 := hW p hp g hg
    have h2 := (ho.blk hgo).1
    omega
  refine ⟨by have := ap.own; simpa using this, fun i p hp => ?_, fun i j p q hij hp hq => ?_⟩
  · rcases Nat.lt_or_ge i os.length with hl | hl
    · rw [List.getElem?_append_left hl] at hp
      exact hr p (h.r i p hp)
    · rw [List.getElem?_append_right hl] at hp
      have : i - os.length = 0 := by
        rcases Nat.eq_zero_or_pos (i - os.length) with e | e
        · exact e
        · rw [List.getElem?_eq_none (by simp; omega)] at hp; cases hp
      rw [this] at hp
      injection hp with hp
      subst hp
      exact hr o (ho.mono hBW)
  · rcases Nat.lt_or_ge i os.length with hl | hl
    · rw [List.getElem?_append_left hl] at hp
      rcases Nat.lt_or_ge j os.length with hj | hj
      · rw [List.getElem?_append_left hj] at hq
        exact h.d i j p q hij hp hq
      · rw [List.getElem?_append_right hj] at hq
        have : j - os.length = 0 := by
          rcases Nat.eq_zero_or_pos (j - os.length) with e | e
          · exact e
          · rw [List.getElem?_eq_none (by simp; omega)] at hq; cases hq
        rw [this] at hq
        injection hq with hq
        subst hq
        exact hap p (List.mem_of_getElem? hp)
    · rw [List.getElem?_append_right hl] at hp
      have hi0 : i - os.length = 0 := by
        rcases Nat.eq_zero_or_pos (i - os.length) with e | e
        · exact e
        · rw [List.getElem?_eq_none (by simp; omega)] at hp; cases hp
      rw [hi0] at hp
      injection hp with hp
      subst hp
      rcases Nat.lt_or_ge j os.length with hj | hj
      · rw [List.getElem?_append_left hj] at hq
        exact (hap q (List.mem_of_getElem? hq)).symm
      · rw [List.getElem?_append_right hj] at hq
        have hj0 : j - os.length = 0 := by
          rcases Nat.eq_zero_or_pos (j - os.length) with e | e
          · exact e
          · rw [List.getElem?_eq_none (by simp; omega)] at hq; cases hq
        omega
theorem Ot.row_lt (h : Ot w B A n c os) : ∀ p ∈ os, ∀ g, blockOf p.1 = some g → g < w.heap.size := fun p hp g hg => by
  obtain ⟨i, hi⟩ := List.getElem?_of_mem hp
  exact ((h.r i p hi).blk hg).2
/-- A store into a row. -/
theorem Ot.store (h : Ot w B A n c os) {i k g nr cr : Nat} {zs : List Int} (ho : os[i]? = some (some ⟨g, 0, none⟩, nr, cr, zs)) (x : Int) :
    Ot (w.setCell ⟨g, k, none⟩ (.int .i64 x)) B A n c (os.set i (some ⟨g, 0, none⟩, nr, cr, zs.set k x)) := by
  have hne : 22 ≠ 3 := by decide
  have hi := h.r i _ ho
  have hil := (List.getElem?_eq_some_iff.1 ho).1
  have hmap : (os.set i (some ⟨g, 0, none⟩, nr, cr, zs.set k x)).map rowV = os.map rowV := by
    rw [List.map_set]
    exact set_same (by rw [List.getElem?_map, ho]; rfl)
  refine ⟨?_, fun j p hp => ?_, fun j l p q hjl hp hq => ?_⟩
  · rw [hmap]
    exact h.s.far (p := ⟨g, k, none⟩) (fun g' hg' e => Own.apart_type h.s hi hne g' (by rw [hg']; rfl) (by dsimp only at e; rw [e]; rfl)) _
  · by_cases e : i = j
    · subst e
      rw [List.getElem?_set_self hil] at hp
      injection hp with hp
      subst hp
      have := hi.set k (.int .i64 x)
      rwa [← ints_set] at this
    · rw [List.getElem?_set_ne e] at hp
      exact (h.r j p hp).far (p := ⟨g, k, none⟩) (fun g' hg' e2 => h.d j i p _ (Ne.symm e) hp ho g' (by rw [hg']; rfl) (by dsimp only at e2; rw [e2]; rfl)) _
  · have key : ∀ (m : Nat) (r : Row), (os.set i (some ⟨g, 0, none⟩, nr, cr, zs.set k x))[m]? = some r → ∃ r0, os[m]? = some r0 ∧ r0.1 = r.1 := by
      intro m r hr
      by_cases e : i = m
      · subst e
        rw [List.getElem?_set_self hil] at hr
        injection hr with hr
        exact ⟨_, ho, by rw [← hr]⟩
      · rw [List.getElem?_set_ne e] at hr
        exact ⟨r, hr, rfl⟩
    obtain ⟨p0, hp0, ep⟩ := key j p hp
    obtain ⟨q0, hq0, eq⟩ := key l q hq
    rw [← ep, ← eq]
    exact h.d j l p0 q0 hjl hp0 hq0
end
end Go.Proofs.Ytjmkejindmgckaa
