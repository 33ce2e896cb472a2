/-
  What few.Put, few.Join and culref.Fewer hand back: plain words. No condition.
-/
import Derived.Test.YtfopihlbdceepaaGreatFewP
import Derived.Test.YtfopihlbdceepaaGreatFew3
namespace Go.Proofs.YtfopihlbdceepaaGreat
open Go.RowKit

/-- No counters. -/
abbrev noFew : Array Value := #[.int .i64 0, .int .i64 0, .slice none 0 0]
/-- What Put and Join hand back of the counters at last: the error, K, what is lost, the counters. -/
def finC (K L : Int) (m : List Ct) : Int × Int × Int × List Ct := if fwErr K L m.length m = 0 then (0, K, L, m) else (2, 0, 0, [])
theorem finC_yes {K L : Int} {m : List Ct} {N : Nat} (hN : m.length = N) (h : fwErr K L N m = 0) : finC K L m = (0, K, L, m) := if_pos (by rw [hN]; exact h)
theorem finC_no {K L : Int} {m : List Ct} {N : Nat} (hN : m.length = N) (h : fwErr K L N m ≠ 0) : finC K L m = (2, 0, 0, []) := if_neg (by rw [hN]; exact h)
theorem addC_mem {key v : Int} : ∀ {l : List Ct} {p : Ct}, p ∈ addC key v l → p ∈ l ∨ p.2 = v ∨ ∃ q ∈ l, p.2 = q.2 + v
  | [], p, h => by
    rw [addC, List.mem_singleton] at h
    subst h
    exact .inr (.inl rfl)
  | s :: l, p, h => by
    unfold addC at h
    split at h
    · rcases List.mem_cons.1 h with rfl | h
      · exact .inl List.mem_cons_self
      · rcases addC_mem h with h | h | ⟨q, h, e⟩
        · exact .inl (List.mem_cons_of_mem _ h)
        · exact .inr (.inl h)
        · exact .inr (.inr ⟨q, List.mem_cons_of_mem _ h, e⟩)
    · split at h
      · rcases List.mem_cons.1 h with rfl | h
        · exact .inr (.inr ⟨s, List.mem_cons_self, rfl⟩)
        · exact .inl (List.mem_cons_of_mem _ h)
      · rcases List.mem_cons.1 h with rfl | h
        · exact .inr (.inl rfl)
        · exact .inl h
end Go.Proofs.YtfopihlbdceepaaGreat
