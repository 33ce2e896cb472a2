/-
  The walk of the law FewJoins, whole. Conditions: the counters read as lists of pairs of Go ints; the last argument reads as a list of numbers.
-/
import Derived.Test.YtfopihlbdceepaaGreatLawJoin1
import Derived.Test.YtfopihlbdceepaaGreatLawJoin2
namespace Go.Proofs.YtfopihlbdceepaaGreat
open Go.RowKit Go.Shelf Go.Maps
set_option linter.unusedVariables false

theorem law_join (K L : Int) (A : Option Addr) (n c : Nat) (l : List Ct) (K2 L2 : Int) (A2 : Option Addr) (n2 c2 : Nat) (m : List Ct) (A4 : Option Addr) (n4 c4 : Nat) (ls : List Int) (w : World) (h : Sp w A n c l) (hf : ∀ p ∈ l, I64 p.1 ∧ I64 p.2) (h2 : Sp w A2 n2 c2 m) (hf2 : ∀ p ∈ m, I64 p.1 ∧ I64 p.2) (h3 : Si w A4 n4 c4 ls) :
    Calls Tryz.prog 3 #[.agg #[.int .i64 K, .int .i64 L, .slice A n c], .agg #[.int .i64 K2, .int .i64 L2, .slice A2 n2 c2], .slice A4 n4 c4] w fun e w' => e = .returned (.bool true) ∧ Below w.heap.size w w' := by
  by_cases hb : 40 < n4
  · by_cases hE : fwErr K L n l = 0
    · by_cases hE2 : fwErr K2 L2 n2 m = 0
      · by_cases hk : K = K2
        · subst hk
          have hok := fwErr_ok h.plen hE
          have hok2 := fwErr_ok h2.plen hE2
          obtain ⟨k, rfl⟩ : ∃ k : Nat, K = k := ⟨K.toNat, by have := hok.k1; omega⟩
          exact law_join_ok_b h h2 h3 hb hE hE2 (fun p hp => by
            rcases List.mem_append.1 hp with hp | hp
            · exact ⟨(hf p hp).1, hok.cnt p hp⟩
            · exact ⟨(hf2 p hp).1, hok2.cnt p hp⟩)
        · exact law_join_len_b h h2 h3 hb hE hE2 hk
      · exact law_join_bad2_b h h2 h3 hb hE rfl hE2
    · exact law_join_bad1_b h h2 h3 hb rfl hE
  · have hs : n4 ≤ 40 := by omega
    by_cases hE : fwErr K L n l = 0
    · by_cases hE2 : fwErr K2 L2 n2 m = 0
      · by_cases hk : K = K2
        · subst hk
          have hok := fwErr_ok h.plen hE
          have hok2 := fwErr_ok h2.plen hE2
          obtain ⟨k, rfl⟩ : ∃ k : Nat, K = k := ⟨K.toNat, by have := hok.k1; omega⟩
          exact law_join_ok h h2 h3 hs hE hE2 (fun p hp => by
            rcases List.mem_append.1 hp with hp | hp
            · exact ⟨(hf p hp).1, hok.cnt p hp⟩
            · exact ⟨(hf2 p hp).1, hok2.cnt p hp⟩)
        · exact law_join_len h h2 h3 hs hE hE2 hk
      · exact law_join_bad2 h h2 h3 hs hE rfl hE2
    · exact law_join_bad1 h h2 h3 hs rfl hE
end Go.Proofs.YtfopihlbdceepaaGreat
