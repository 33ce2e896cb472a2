/-
  culref.Rules at one slice: the walk. Conditions: the slice reads as a list of rules; the texts' lengths.
-/
import Derived.Test.YtfopihlbdceepaaBoard4
namespace Go.Proofs.Ytfopihlbdceepaa
open Go.RowKit Go.Shelf

theorem not_less (a b : ByteArray) : (Op.bytesLess a.toList b.toList || a.toList == b.toList) = !ltB b a := by
  rw [less_of, ByteArray.toList_eq, ByteArray.toList_eq]
  cases h : ltB a b with
  | true => rw [ltB_asymm h]; rfl
  | false =>
    cases h2 : ltB b a with
    | true =>
      have : (a.data.toList == b.data.toList) = false := by
        rw [beq_eq_false_iff_ne]
        intro e
        have := by8_inj e
        subst this
        rw [ltB_irr] at h2; cases h2
      rw [this]; rfl
    | false =>
      have := ltB_total h h2
      subst this
      simp
theorem not_less2 (q p : ByteArray) {B : Bool} (hB : ltB q p = B) :
    (Op.bytesLess p.toList q.toList = false ∧ (p.toList == q.toList) = false ∧ B = true) ∨ (Op.bytesLess p.toList q.toList = true ∧ True ∧ B = false) ∨ (Op.bytesLess p.toList q.toList = false ∧ (p.toList == q.toList) = true ∧ B = false) := by
  have h := not_less p q
  rw [hB] at h
  cases B with
  | true =>
    simp only [Bool.not_true, Bool.or_eq_false_iff] at h
    exact .inl ⟨h.1, h.2, rfl⟩
  | false =>
    simp only [Bool.not_false, Bool.or_eq_true] at h
    cases h1 : Op.bytesLess p.toList q.toList with
    | true => exact .inr (.inl ⟨rfl, trivial, rfl⟩)
    | false =>
      rw [h1] at h
      rcases h with h | h
      · cases h
      · exact .inr (.inr ⟨rfl, h, rfl⟩)
section
variable {A : Option Addr} {n c g : Nat} {l : List Rul} {w : World}
set_option maxRecDepth 20000 in
set_option maxHeartbeats 3200000 in
theorem rrules_any (h : Sr w A n c l) (hf : FitR l) (hcell : w.cell? ⟨g, 0, none⟩ = some (.slice A n c)) :
    Calls Try.prog 8 #[.slice (some ⟨g, 0, none⟩) 1 1] w fun e w' => e = .returned (.int .i64 (rlErr n l)) ∧ Below w.heap.size w w' := by
  have hm := h.len_max
  have hgl : g < w.heap.size := block_lt hcell
  have HF := hide hf
  have HL := hide h.rlen
  clear hf
  by_cases h16 : 16 < n
  · have H2 := hide (show rlErr n l = 2 from if_pos h16)
    go_enter Try.func8, Try.ntmps8
    go_wp2_with fail
    go_loopw [10] (fun i wr => i = .int .i64 0 ∧ wr = w) (fun _ _ => 0)
    case atStart => exact ⟨rfl, rfl⟩
    case round =>
      obtain ⟨rfl, rfl⟩ := hrel
      go_wp2_with fail
      rw [H2.out]
      go_ret
      exact ⟨rfl, Below.refl _ _⟩
  · have H16 := hide h16
    go_enter Try.func8, Try.ntmps8
    go_wp2_with fail
    go_loopw [10] (fun i wr => ∃ o : Nat, o ≤ 1 ∧ i = .int .i64 o ∧ Hid (o = 1 → rlErr n l = 0) ∧ Below w.heap.size w wr) (fun i _ => 1 - (intOf i).toNat)
    case atStart => exact ⟨0, by omega, rfl, hide (fun h => by cases h), Below.refl _ _⟩
    case round =>
      obtain ⟨o, ho, rfl, HO, hb0⟩ := hrel
      by_cases ho1 : o < 1
      · obtain rfl : o = 0 := by omega
        rw [show ((0 : Nat) : Int) = 0 from rfl]
        have hcell2 : wr.cell? ⟨g, 0, none⟩ = some (.slice A n c) := (hb0.cell (p := ⟨g, 0, none⟩) hgl).trans hcell
        go_wp2_with fail
        go_loopw [19] (fun i wr => ∃ k : Nat, k ≤ n ∧ i = .int .i64 k ∧ Hid (faultTo (rlStep l) k = 0) ∧ Below w.heap.size w wr) (fun i _ => n - (intOf i).toNat)
        case atStart => exact ⟨0, Nat.zero_le _, rfl, hide rfl, hb0⟩
        case round =>
          clear hb0 hcell2
          obtain ⟨k, hk, rfl, HK, hb⟩ := hrel
          by_cases hlt : k < n
          · have hsl := h.below hb
            have hlt0 := hlt
            obtain ⟨ad, r, rfl, hbk, hr, hc0, hc1, hc2⟩ := hsl.rcell hlt
            have HR := hide hr
            have hsz := HF.out r (List.mem_of_getElem? hr)
            clear hr
            obtain ⟨p, x, y⟩ := r
            dsimp only at hc0 hc1 hc2 hsz
            obtain ⟨E, hE⟩ : ∃ E, oneErr (p, x, y) = E := ⟨_, rfl⟩
            have CO := hide (fun w => rrule_any p x y w hsz)
            rw [hE] at CO
            have HE := hide hE
            clear hE
            have hwr : wr.heap.size ≤ (wr.alloc (.cells #[.string p, .int .i64 x, .int .i64 y] 24)).heap.size := by rw [World.size_alloc]; omega
            go_wp2_with fail
            refine (CO.out _).mono ?_
            rintro e w3 ⟨rfl, b3⟩
            have hb3 : Below w.heap.size w w3 := below_on (below_alloc hb _) b3
            have bl := (Blk.new wr 24 #[.string p, .int .i64 x, .int .i64 y]).below b3 (by rw [World.size_alloc]; exact Nat.lt_succ_self _)
            have blt := bl.lt
            have d0 := bl.at_ (i := 0) (u := .string p) rfl
            by_cases hE : E = 0
            · by_cases hk0 : k = 0
              · have HST := hide (faultTo_next HK.out (show rlStep l k = 0 by subst hk0; exact step_first HR.out (HE.out.trans hE)))
                subst hE
                have t0 : decide (0 < (k : Int)) = false := by rw [hk0]; rfl
                have t1 : ¬ 0 < (k : Int) := by omega
                have t4 : ¬ 0 < k := by omega
                have t5 : decide (0 < k) = false := decide_eq_false t4
                clear hk0
                go_wp2_with fail
                go_quiet (fail)
                go_wp2_with fail
                go_roundw
                case rel => exact ⟨k + 1, by omega, by go_num, HST, by repeat' (first | assumption | with_reducible exact Below.refl _ _ | with_reducible apply Below.drew | with_reducible apply below_drewN | with_reducible apply below_alloc | with_reducible refine below_set ?_ ?_ _ | (simp only [World.size_alloc, World.heap_drewN]; omega) | (simp; omega))⟩
                case measure => simp [intOf]; omega
              · obtain ⟨m, hkm⟩ : ∃ m : Nat, k = m + 1 := ⟨k - 1, by omega⟩
                obtain ⟨ad', q, had, hbk', hq, hq0, hq1, hq2⟩ := (h.below hb3).rcell (j := m) (by omega)
                injection had with had
                subst had
                have t0 : decide (0 < (k : Int)) = true := decide_eq_true (by omega)
                have t1 : 0 < (k : Int) := by omega
                have t4 : 0 < k := by omega
                have t5 : decide (0 < k) = true := decide_eq_true t4
                have t2 : IntKind.i64.wrap (m : Int) = (m : Int) := IntWalk.i64_in _ (by omega)
                have t3 : (k : Int) - 1 = (m : Int) := by omega
                have hmn : m < n := by omega
                obtain ⟨B, hB⟩ : ∃ B, ltB q.1 p = B := ⟨_, rfl⟩
                have hord := not_less2 q.1 p hB
                have HST := hide (step_next (l := l) (k := k) HR.out (by rw [hkm]; exact hq) (by omega) (HE.out.trans hE) hB)
                subst hE
                clear hq hk0 hq1 hq2 hB
                obtain ⟨u, v⟩ := q
                dsimp only at hq0 hord
                clear hkm
                rcases hord with ⟨e1, e2, e3⟩ | ⟨e1, e2, e3⟩ | ⟨e1, e2, e3⟩
                all_goals subst e3
                · have HN := hide (faultTo_next HK.out HST.out)
                  go_wp2_with fail
                  go_quiet (fail)
                  go_wp2_with fail
                  go_roundw
                  case rel => exact ⟨k + 1, by omega, by go_num, HN, by repeat' (first | assumption | with_reducible exact Below.refl _ _ | with_reducible apply Below.drew | with_reducible apply below_drewN | with_reducible apply below_alloc | with_reducible refine below_set ?_ ?_ _ | (simp only [World.size_alloc, World.heap_drewN]; omega) | (simp; omega))⟩
                  case measure => simp [intOf]; omega
                · have HN := hide (rlErr_bad H16.out hlt0 HK.out HST.out (by decide))
                  go_wp2_with fail
                  go_quiet (fail)
                  go_wp2_with fail
                  rw [HN.out]
                  go_ret
                  exact ⟨rfl, by repeat' (first | assumption | with_reducible exact Below.refl _ _ | with_reducible apply Below.drew | with_reducible apply below_drewN | with_reducible apply below_alloc | with_reducible refine below_set ?_ ?_ _ | (simp only [World.size_alloc, World.heap_drewN]; omega) | (simp; omega))⟩
                · have HN := hide (rlErr_bad H16.out hlt0 HK.out HST.out (by decide))
                  go_wp2_with fail
                  go_quiet (fail)
                  go_wp2_with fail
                  rw [HN.out]
                  go_ret
                  exact ⟨rfl, by repeat' (first | assumption | with_reducible exact Below.refl _ _ | with_reducible apply Below.drew | with_reducible apply below_drewN | with_reducible apply below_alloc | with_reducible refine below_set ?_ ?_ _ | (simp only [World.size_alloc, World.heap_drewN]; omega) | (simp; omega))⟩
            · have t1 : (E != 0) = true := by simpa using hE
              have HST := hide (rlErr_bad H16.out hlt HK.out ((step_one HR.out (by rw [HE.out]; exact hE)).trans HE.out) hE)
              go_wp2_with fail
              rw [HST.out]
              go_ret
              exact ⟨rfl, hb3⟩
          · obtain rfl : k = n := by omega
            have HT := hide (show rlErr k l = 0 by unfold rlErr; rw [if_neg H16.out]; exact HK.out)
            go_wp2_with fail
            go_roundw
            case rel => exact ⟨1, by omega, by go_num, hide (fun _ => HT.out), hb⟩
            case measure => simp [intOf]
      · obtain rfl : o = 1 := by omega
        have HT := hide (HO.out rfl)
        go_wp2_with fail
        rw [HT.out]
        go_ret
        exact ⟨rfl, hb0⟩
end
end Go.Proofs.Ytfopihlbdceepaa
