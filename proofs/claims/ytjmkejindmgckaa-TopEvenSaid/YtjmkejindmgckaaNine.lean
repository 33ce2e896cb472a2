/-
  Weights from 1 to 9, on plain lists. No program in sight.
-/
import Derived.Test.YtjmkejindmgckaaTop
import Derived.Test.YtjmkejindmgckaaEvenP
namespace Go.Proofs.Ytjmkejindmgckaa
/-- Weights from 1 to 9. -/
def Nine (ws : List Int) : Prop := ∀ x ∈ ws, 1 ≤ x ∧ x ≤ 9
theorem Nine.snoc {ws : List Int} {x : Int} (h : Nine ws) (h1 : 1 ≤ x) (h2 : x ≤ 9) : Nine (ws ++ [x]) := by
  intro y hy
  rcases List.mem_append.1 hy with e | e
  · exact h y e
  · rw [List.mem_singleton] at e; subst e; exact ⟨h1, h2⟩
theorem Nine.at {ws : List Int} {k : Nat} {x : Int} (h : Nine ws) (hx : ws[k]? = some x) : 1 ≤ x ∧ x ≤ 9 := h x (List.mem_of_getElem? hx)
theorem Nine.none {ws : List Int} (h : Nine ws) : ∀ k, k ≤ ws.length → noneTo wBad ws k = true
  | 0, _ => rfl
  | k + 1, hk => by
    have hx := h.at (getD_at (l := ws) (k := k) (by omega))
    exact noneTo_next (h.none k (by omega)) (getD_at (by omega)) (by rw [wBad, inR_yes (by omega)]; rfl)
theorem Nine.sum {ws : List Int} (h : Nine ws) : ∀ k, k ≤ ws.length → (k : Int) ≤ wsum ws k ∧ wsum ws k ≤ 9 * (k : Int)
  | 0, _ => by simp [wsum]
  | k + 1, hk => by
    have ih := h.sum k (by omega)
    have hx := h.at (getD_at (l := ws) (k := k) (by omega))
    rw [wsum_next (getD_at (by omega))]; omega
theorem Nine.err {ws : List Int} {m : Nat} (h : Nine ws) (hl : ws.length = m) (h1 : 0 < m) (h2 : m ≤ 40) : wErr m ws = 0 := by
  have hs := h.sum m (by omega)
  unfold wErr
  rw [if_neg (by omega), if_neg (by rw [h.none m (by omega)]; simp), if_neg (by omega)]
theorem Nine.lim {ws : List Int} (h : Nine ws) : ∀ x ∈ ws, 0 ≤ x ∧ x ≤ 1000000000000 := fun x hx => by have := h x hx; omega
theorem got_part (l : List Int) (all : Int) (k s n : Nat) {i : Nat} (hi : i ≤ n) : -(k : Int) ≤ wsum (evenTo l all (k : Int) (s : Int) n k) i ∧ wsum (evenTo l all (k : Int) (s : Int) n k) i ≤ k := by
  rw [got_sum' l all k s n i hi]
  have h1 := cnt_nonneg s all (wsum l i * k) k
  have h2 := cnt_nonneg s all 0 k
  omega
theorem got_lim (l : List Int) (all : Int) {k i s : Nat} (hk : k ≤ 9) (hs : s ≤ 100) : -900 ≤ sumTo (got l all k i) s ∧ sumTo (got l all k i) s ≤ 900 := by
  have h1 := got_bound l all k i s
  have h2 : (k : Int) * s ≤ 9 * 100 := Int.mul_le_mul (by omega) (by omega) (by omega) (by decide)
  omega
end Go.Proofs.Ytjmkejindmgckaa
