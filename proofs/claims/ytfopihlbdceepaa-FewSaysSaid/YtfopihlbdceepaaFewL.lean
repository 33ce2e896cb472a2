/-
  few.Put and culref.Fewer answer alike: a plain matter of lists.
-/
import Derived.Test.YtfopihlbdceepaaFewer
namespace Go.Proofs.Ytfopihlbdceepaa

/-- What few.Put hands back. -/
def Putted (K L : Int) (key v : Int) (l : List Ct) (y : Int × Int × Int × List Ct) : Prop :=
  if ((addC key v l).length : Int) ≤ K then finC K L (addC key v l) = y else ∃ d, LeastC (addC key v l) (addC key v l).length d ∧ finC K (L + d.2) (lessC d.2 (addC key v l)) = y
theorem least_last {m : List Ct} {zs : List Int} {d : Ct} {e : Int} {k : Nat} (hk : m.length = k + 1) (hl : LeastC m m.length d) (hp : zs.Perm (m.map (·.2))) (hd : Down zs) (he : zs[k]? = some e) : e = d.2 := by
  have hz : zs.length = k + 1 := by rw [hp.length_eq, List.length_map, hk]
  have h1 : e ∈ m.map (·.2) := hp.mem_iff.1 (List.mem_of_getElem? he)
  obtain ⟨p, hpm, rfl⟩ := List.mem_map.1 h1
  obtain ⟨j, hj⟩ := List.getElem?_of_mem hpm
  have h2 := hl.2 j p (List.getElem?_eq_some_iff.1 hj).1 hj
  have h3 : d.2 ∈ zs := hp.mem_iff.2 (List.mem_map.2 ⟨d, hl.1, rfl⟩)
  obtain ⟨i, hi⟩ := List.getElem?_of_mem h3
  have hi2 := (List.getElem?_eq_some_iff.1 hi).1
  rcases Nat.lt_or_ge i k with h | h
  · have h4 := (List.pairwise_iff_getElem.1 hd) i k hi2 (by omega) h
    rw [List.getElem?_eq_getElem hi2] at hi
    rw [List.getElem?_eq_getElem (by omega)] at he
    injection hi with hi
    injection he with he
    omega
  · have : i = k := by omega
    subst this
    rw [hi] at he
    injection he with he
    exact he.symm
theorem put_law {K L key v : Int} {k n : Nat} {l : List Ct} {y z : Int × Int × Int × List Ct} (hok : FwOk K L n l) (hn : l.length = n) (hk : K = k) (h1 : Putted K L key v l y) (h2 : Fewed k L (allC (l ++ [(key, v)])) z) : y = z := by
  subst hk
  have e : allC (l ++ [(key, v)]) = addC key v l := by rw [allC_append, allC_self hok.up]; rfl
  rw [e] at h2
  have hlen := addC_len key v l
  unfold Putted at h1
  unfold Fewed at h2
  by_cases hc : (addC key v l).length ≤ k
  · rw [if_pos (by omega)] at h1
    rw [if_pos hc] at h2
    exact h1.symm.trans h2
  · rw [if_neg (by omega)] at h1
    rw [if_neg hc] at h2
    obtain ⟨d, hd, h1⟩ := h1
    obtain ⟨zs, e, hp, hdn, he, h2⟩ := h2
    have hnk := hok.nk
    have := least_last (by omega) hd hp hdn he
    subst this
    exact h1.symm.trans h2
theorem ctok_snoc {K L key v : Int} {n : Nat} {l : List Ct} (hok : FwOk K L n l) (hk : ∀ p ∈ l, I64 p.1) (hkey : I64 key) (h1 : 1 ≤ v) (h2 : v ≤ 1000000000000) : CtOk (l ++ [(key, v)]) := by
  intro p hp
  rcases List.mem_append.1 hp with hp | hp
  · exact ⟨hk p hp, hok.cnt p hp⟩
  · rw [List.mem_singleton] at hp
    subst hp
    exact ⟨hkey, h1, h2⟩
section
open Go.RowKit
variable {A : Option Addr} {n c : Nat} {l : List Ct} {w : World} {K L key v : Int}
theorem fput_any (h : Sp w A n c l) (hok : FwOk K L n l) (h0 : fwErr K L n l = 0) (hv1 : 1 ≤ v) (hv2 : v ≤ 1000000000000) :
    Calls Try.prog 14 #[.agg #[.int .i64 K, .int .i64 L, .slice A n c], .int .i64 key, .int .i64 v] w fun e w' => ∃ E K' L' A' n' c' l', e = .returned (.tuple #[.agg #[.int .i64 K', .int .i64 L', .slice A' n' c'], .int .i64 E]) ∧ Sp w' A' n' c' l' ∧ Putted K L key v l (E, K', L', l') ∧ Below w.heap.size w w' := by
  by_cases hc : ((addC key v l).length : Int) ≤ K
  · refine (fput_small h hok h0 hv1 hv2 hc).mono ?_
    rintro e w' ⟨E, K', L', A', n', c', l', rfl, hs, hf, hb⟩
    exact ⟨E, K', L', A', n', c', l', rfl, hs, by unfold Putted; rw [if_pos hc]; exact hf, hb⟩
  · refine (fput_big h hok h0 hv1 hv2 (by omega)).mono ?_
    rintro e w' ⟨E, K', L', A', n', c', l', rfl, hs, hf, hb⟩
    exact ⟨E, K', L', A', n', c', l', rfl, hs, by unfold Putted; rw [if_neg hc]; exact hf, hb⟩
end
end Go.Proofs.Ytfopihlbdceepaa
