/-
  culref.Counts: the walk. Conditions: the counters read as a list of pairs; their bounds.
-/
import Derived.Test.YtfopihlbdceepaaGreatMapC
import Derived.Test.YtfopihlbdceepaaGreatFewB
import Derived.Deep.DeepCutAuto
import Derived.Carry
namespace Go.Proofs.YtfopihlbdceepaaGreat
open Go.RowKit Go.Shelf Go.Maps

theorem Kin : Keyed Tryz.prog 3 := int_keyed Tryz.underlying3
/-- Counters as arguments: Go ints as keys, no count of more than 10^12. -/
def CtOk (l : List Ct) : Prop := ∀ p ∈ l, I64 p.1 ∧ 1 ≤ p.2 ∧ p.2 ≤ 1000000000000
theorem allC_take {l : List Ct} {k : Nat} {x : Ct} (h : l[k]? = some x) : allC (l.take (k + 1)) = addC x.1 x.2 (allC (l.take k)) := by
  rw [List.take_add_one, h, Option.toList_some, allC_append]; rfl
theorem allC_bnd {l : List Ct} (h : CtOk l) : ∀ k, k ≤ l.length → ∀ p ∈ allC (l.take k), 1 ≤ p.2 ∧ p.2 ≤ k * 1000000000000
  | 0, _, p, hp => by cases hp
  | k + 1, hk, p, hp => by
    have hx : l[k]? = some (l[k]'(by omega)) := List.getElem?_eq_getElem (by omega)
    obtain ⟨_, h1, h2⟩ := h _ (List.mem_of_getElem? hx)
    have hi := allC_bnd h k (by omega)
    rw [allC_take hx] at hp
    rcases addC_mem hp with h3 | h3 | ⟨q, h3, e⟩
    · have := hi p h3; omega
    · omega
    · have := hi q h3; omega
theorem allC_keys (l : List Ct) (k : Int) : k ∈ (allC l).map (·.1) ↔ k ∈ l.map (·.1) := by rw [allC, foldC_keys]; simp
theorem cnt_in {m : List Ct} {B : Int} (hu : UpK m) (hB : 0 ≤ B) (h : ∀ p ∈ m, 1 ≤ p.2 ∧ p.2 ≤ B) (key : Int) : 0 ≤ cnt m key ∧ cnt m key ≤ B := by
  rw [cnt_lookC hu]
  cases hl : lookC key m with
  | none => exact ⟨Int.le_refl _, hB⟩
  | some v => have := h _ (lookC_mem hl); exact ⟨by show 0 ≤ v; omega, this.2⟩
section
variable {A : Option Addr} {n c : Nat} {l : List Ct} {w : World}
set_option maxRecDepth 20000 in
set_option maxHeartbeats 3200000 in
theorem counts_any (h : Sp w A n c l) (hc : CtOk l) (hn : n ≤ 1000) :
    Calls Tryz.prog 10 #[.slice A n c] w fun e w' => e = .returned (.map (some w.heap.size)) ∧ MapC Tryz.prog 3 3 w' w.heap.size n (allC l) ∧ Below w.heap.size w w' := by
  have hm := h.len_max
  have hln := h.plen
  have HC := hide hc
  have HBD := hide (allC_bnd hc)
  have HFIN := hide (show allC (l.take n) = allC l by rw [← hln, List.take_length])
  have hmm := @run_makeMap Tryz.prog
  clear hc
  go_enter Tryz.func10, Tryz.ntmps10
  go_wp2_with fail
  clear hmm
  have hs0 : MapC Tryz.prog 3 3 (w.alloc (.map #[] 0)) w.heap.size 0 (allC (l.take 0)) := MapC.made w _ _ _
  have hb0 : Below w.heap.size w (w.alloc (.map #[] 0)) := by repeat' (first | assumption | with_reducible exact Below.refl _ _ | with_reducible apply Below.drew | with_reducible apply below_drewN | with_reducible apply below_alloc | with_reducible refine below_set ?_ ?_ _ | (simp only [World.size_alloc, World.heap_drewN]; omega) | (simp; omega))
  generalize w.alloc (.map #[] 0) = w1 at hs0 hb0 ⊢
  go_loopw [9] (fun i wr => ∃ k : Nat, k ≤ n ∧ i = .int .i64 k ∧ MapC Tryz.prog 3 3 wr w.heap.size k (allC (l.take k)) ∧ Below w.heap.size w wr) (fun i _ => n - (intOf i).toNat)
  case atStart => exact ⟨0, by omega, rfl, hs0, hb0⟩
  case round =>
    obtain ⟨k, hk, rfl, hmp, hb⟩ := hrel
    by_cases hlt : k < n
    · obtain ⟨ad, x, rfl, hbk, hx, hc0, hc1⟩ := (h.below hb).pcell hlt
      obtain ⟨a1, a2, a3⟩ := HC.out x (List.mem_of_getElem? hx)
      have HT := hide (allC_take hx)
      have HU := hide (allC_up (l.take k))
      have hcb := cnt_in HU.out (by omega) (HBD.out k (by omega)) x.1
      obtain ⟨m, hmq⟩ : ∃ m, allC (l.take k) = m := ⟨_, rfl⟩
      rw [hmq] at hmp HT HU hcb
      obtain ⟨x1, x2⟩ := x
      dsimp only at hc0 hc1 a1 a2 a3 hcb
      obtain ⟨v, hv⟩ : ∃ v, cnt m x1 = v := ⟨_, rfl⟩
      rw [hv] at hcb
      have ez : IntKind.i64.wrap (v + x2) = v + x2 := IntWalk.i64_in _ (by omega)
      have hru : I64 (v + x2) := by unfold I64; omega
      have HV := hide hv
      have hsz2 := (below_alloc hb (.cells #[.int .i64 x1, .int .i64 x2] 40)).size
      have hb2 := below_alloc hb (.cells #[.int .i64 x1, .int .i64 x2] 40)
      have mp2 := hmp.alloc (.cells #[.int .i64 x1, .int .i64 x2] 40)
      have bp := Blk.new wr 40 #[.int .i64 x1, .int .i64 x2]
      have q0 := bp.at_ (i := 0) (u := .int .i64 x1) rfl
      have q1 := bp.at_ (i := 1) (u := .int .i64 x2) rfl
      clear hmq hx hv bp hmp
      go_wp2_with (first
        | (at_lookup; refine wpList_mapc_look rfl _ _ rfl mp2 HU.out Kin Tryz.underlying3 Tryz.underlying3 Tryz.underlying36 (Tryz.zeroValue3 _) rfl x1 rfl a1 HV.out ?_)
        | (at_mapUpdate; refine wpList_mapc_put rfl _ _ _ rfl mp2 HU.out Kin Tryz.underlying3 Tryz.underlying3 Tryz.underlying36 (by simp only [maxLen]; omega) rfl x1 (v + x2) x2 rfl a1 rfl hru (by rw [HV.out]) ?_; intro w5 mp5 g5))
      have hb5 := hb2.grown g5 hsz2 (fun j hj => by injection hj with hj; omega)
      go_roundw
      case rel => exact ⟨k + 1, by omega, by go_num, by rw [HT.out]; exact mp5, hb5⟩
      case measure => simp [intOf]; omega
    · obtain rfl : k = n := by omega
      rw [HFIN.out] at hmp
      go_wp2_with fail
      go_ret
      exact ⟨rfl, hmp, hb⟩
end
end Go.Proofs.YtfopihlbdceepaaGreat
