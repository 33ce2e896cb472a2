/-
  The walk of the law BoardSays, all of it. Conditions: the slices read as lists of rules; the texts' lengths.
-/
import Derived.Test.YtfopihlbdceepaaLawBoardB
import Derived.Test.YtfopihlbdceepaaLawBoard1
import Derived.Test.YtfopihlbdceepaaLawBoard2
import Derived.Test.YtfopihlbdceepaaLawBoard3
import Derived.Test.YtfopihlbdceepaaLawBoard4
import Derived.Test.YtfopihlbdceepaaLawBoard5
import Derived.Test.YtfopihlbdceepaaLawBoard6
namespace Go.Proofs.Ytfopihlbdceepaa
open Go.RowKit Go.Shelf

theorem zero_err : rlErr 1 [(⟨#[]⟩, 0, 0)] = 1 := by decide +kernel
theorem rput_all {A : Option Addr} {n c : Nat} {l : List Rul} {w : World} (h : Sr w A n c l) (hok : RlOk l) (p : ByteArray) (a b : Int) (hp : p.size ≤ 9223372036854775807) :
    Calls Try.prog 10 #[.slice A n c, .agg #[.string p, .int .i64 a, .int .i64 b]] w fun e w' => ∃ A' n' c', e = .returned (.tuple #[.slice A' n' c', .int .i64 (putOut (p, a, b) l).1]) ∧ Sr w' A' n' c' (putOut (p, a, b) l).2 ∧ Below w.heap.size w w' := by
  by_cases h1 : oneErr (p, a, b) = 0
  · exact rput_ok h hok p a b hp h1
  · rw [put_bad (r := (p, a, b)) h1]
    exact (rput_bad _ p a b hp rfl h1).mono fun e w' ⟨h2, h3⟩ => ⟨none, 0, 0, h2, Sl.nil _ _ 3, h3⟩
theorem law_board {A A2 : Option Addr} {n c n2 c2 : Nat} {p name : ByteArray} {x y : Int} {l l2 : List Rul} {w : World} (h : Sr w A n c l) (h2 : Sr w A2 n2 c2 l2) (hf : FitR l) (hf2 : FitR l2) (hp : p.size ≤ 9223372036854775807) :
    Calls Try.prog 3 #[.slice A n c, .slice A2 n2 c2, .agg #[.string p, .int .i64 x, .int .i64 y], .string name] w fun e w' => e = .returned (.bool true) ∧ Below w.heap.size w w' := by
  have CZ : Hid (∀ (w' : World) (g : Nat), Blk w' g 24 #[.string ⟨#[]⟩, .int .i64 0, .int .i64 0] → Calls Try.prog 9 #[.slice (some ⟨g, 0, none⟩) 1 1] w' fun e w'' => e = .returned (.int .i64 1) ∧ Below w'.heap.size w' w'') := fun w' g hb => by
    have k := bcheck_any (w := w') (A := some ⟨g, 0, none⟩) (n := 1) (c := 1) (l := [(⟨#[]⟩, 0, 0)]) (Sl.blk 3 1 (cs := rls [(⟨#[]⟩, 0, 0)]) hb rfl (by simp [maxLen])) (fun r hr => by rw [List.mem_singleton] at hr; rw [hr]; decide)
    rw [zero_err] at k
    exact k
  by_cases hE : rlErr n l = 0
  · have hok := rlErr_ok h.rlen hE
    have CPUT := hide (fun w' (hb : Below w.heap.size w w') => bput_ok (h.on hb) hok p x y hp)
    have RPUT := hide (fun w' (hb : Below w.heap.size w w') => rput_all (h.on hb) hok p x y hp)
    have CR := hide (fun w' (hb : Below w.heap.size w w') g (hg : w'.cell? ⟨g, 0, none⟩ = some (.slice A n c)) => rrules_any (h.on hb) hf hg)
    have CC := hide (fun w' (hb : Below w.heap.size w w') => bcheck_any (h.on hb) hf)
    rw [hE] at CR CC
    have CR2 := hide (fun w' (hb : Below w.heap.size w w') g (hg : w'.cell? ⟨g, 0, none⟩ = some (.slice A2 n2 c2)) => rrules_any (h2.on hb) hf2 hg)
    by_cases hl : 200 < name.size
    · have CASK := hide (fun w' (hb : Below w.heap.size w w') => bask_long (h.on hb) hok hl)
      by_cases hE2 : rlErr n2 l2 = 0
      · have hok2 := rlErr_ok h2.rlen hE2
        rw [hE2] at CR2
        exact law_board_two_long (D := 0) hl rfl rfl CPUT (hide fun w' hb => bjoin_ok (h.on hb) hok (h2.on hb) hok2) CASK CR CC CZ RPUT CR2 (hide fun w' hb => joined_ok (h.on hb) hok (h2.on hb) hok2)
      · exact law_board_one_long (D := 0) hE2 rfl hl rfl rfl CPUT (hide fun w' hb => (bjoin_bad2 (h.on hb) hok (h2.on hb) hf2 rfl hE2).mono fun e w'' ⟨h7, h8⟩ => ⟨none, 0, 0, h7, Sl.nil _ _ 3, h8⟩) CASK CR CC CZ RPUT CR2
    · have CASK := hide (fun w' (hb : Below w.heap.size w w') => bask_ok (h.on hb) hok hl)
      have hn16 : n ≤ 16 := by rw [← h.rlen]; exact hok.len
      have RASK := hide (fun w' (hb : Below w.heap.size w w') => rask_any (name := name) (h.on hb) (by omega) (by omega))
      by_cases hD : 0 ≤ askDown l name name.size
      · rw [show askOut l name = (askDown l name name.size, 0) by unfold askOut; rw [if_neg hl, if_pos hD]] at CASK
        by_cases hE2 : rlErr n2 l2 = 0
        · have hok2 := rlErr_ok h2.rlen hE2
          rw [hE2] at CR2
          exact law_board_two_hit hl hD rfl rfl CPUT (hide fun w' hb => bjoin_ok (h.on hb) hok (h2.on hb) hok2) CASK CR CC CZ RPUT CR2 (hide fun w' hb => joined_ok (h.on hb) hok (h2.on hb) hok2) RASK
        · exact law_board_one_hit hE2 rfl hl hD rfl rfl CPUT (hide fun w' hb => (bjoin_bad2 (h.on hb) hok (h2.on hb) hf2 rfl hE2).mono fun e w'' ⟨h7, h8⟩ => ⟨none, 0, 0, h7, Sl.nil _ _ 3, h8⟩) CASK CR CC CZ RPUT CR2 RASK
      · rw [show askOut l name = (0, 4) by unfold askOut; rw [if_neg hl, if_neg hD]] at CASK
        by_cases hE2 : rlErr n2 l2 = 0
        · have hok2 := rlErr_ok h2.rlen hE2
          rw [hE2] at CR2
          exact law_board_two_none hl hD rfl rfl CPUT (hide fun w' hb => bjoin_ok (h.on hb) hok (h2.on hb) hok2) CASK CR CC CZ RPUT CR2 (hide fun w' hb => joined_ok (h.on hb) hok (h2.on hb) hok2) RASK
        · exact law_board_one_none hE2 rfl hl hD rfl rfl CPUT (hide fun w' hb => (bjoin_bad2 (h.on hb) hok (h2.on hb) hf2 rfl hE2).mono fun e w'' ⟨h7, h8⟩ => ⟨none, 0, 0, h7, Sl.nil _ _ 3, h8⟩) CASK CR CC CZ RPUT CR2 RASK
  · exact law_board_bad (D := 0) hE rfl rfl rfl rfl rfl rfl (hide fun w' hb => (bput_bad (h.on hb) hf p x y rfl hE).mono fun e w'' ⟨h7, h8⟩ => ⟨none, 0, 0, h7, Sl.nil _ _ 3, h8⟩)
      (hide fun w' hb => (bjoin_bad (h.on hb) hf _ rfl hE).mono fun e w'' ⟨h7, h8⟩ => ⟨none, 0, 0, h7, Sl.nil _ _ 3, h8⟩) (hide fun w' hb => bask_bad (h.on hb) hf rfl hE)
      (hide fun w' hb g hg => rrules_any (h.on hb) hf hg) (hide fun w' hb => bcheck_any (h.on hb) hf) CZ
theorem law_board_is (A : Option Addr) (n c : Nat) (l : List Rl) (A2 : Option Addr) (n2 c2 : Nat) (l2 : List Rl) (p : ByteArray) (x y : Int) (name : ByteArray) (w : World) (h : Sr w A n c l) (hf : ∀ r ∈ l, r.1.size ≤ maxLen) (h2 : Sr w A2 n2 c2 l2) (hf2 : ∀ r ∈ l2, r.1.size ≤ maxLen) (hp : p.size ≤ maxLen) (_ : name.size ≤ 140737488351232) :
    Calls Try.prog 3 #[.slice A n c, .slice A2 n2 c2, .agg #[.string p, .int .i64 x, .int .i64 y], .string name] w fun e w' => e = .returned (.bool true) ∧ Below w.heap.size w w' :=
  law_board h h2 hf hf2 hp
end Go.Proofs.Ytfopihlbdceepaa
