/-
  board.Check: the walk. Conditions: the slice reads as a list of rules; the texts' lengths.
-/
import Derived.Test.YtfopihlbdceepaaBoard3
import Derived.Laws.Cover1
import Derived.Laws.Strings
namespace Go.Proofs.Ytfopihlbdceepaa
open Go.RowKit Go.Shelf

def FitR (l : List Rul) : Prop := ∀ r ∈ l, r.1.size ≤ 9223372036854775807
theorem less_of (a b : ByteArray) : Op.bytesLess a.toList b.toList = ltB a b := by rw [ByteArray.toList_eq, ByteArray.toList_eq]; rfl
theorem step_one {l : List Rul} {k : Nat} {r : Rul} (h : l[k]? = some r) (h1 : oneErr r ≠ 0) : rlStep l k = oneErr r := by unfold rlStep; rw [rAt_of h, if_pos h1]
theorem step_first {l : List Rul} {r : Rul} (h : l[0]? = some r) (h1 : oneErr r = 0) : rlStep l 0 = 0 := by unfold rlStep; rw [rAt_of h, if_neg (by rw [h1]; simp), if_neg (fun h => Nat.lt_irrefl 0 h.1)]
theorem step_next {l : List Rul} {k : Nat} {q r : Rul} (h : l[k]? = some r) (hq : l[k - 1]? = some q) (h0 : 0 < k) (h1 : oneErr r = 0) {b : Bool} (hb : ltB q.1 r.1 = b) : rlStep l k = bif b then 0 else 3 := by
  unfold rlStep
  rw [rAt_of h, rAt_of hq, if_neg (by rw [h1]; simp), hb]
  cases b with
  | true => rw [if_neg (by simp)]; rfl
  | false => rw [if_pos ⟨h0, rfl⟩]; rfl
theorem rlErr_bad {n k : Nat} {l : List Rul} (hn : ¬ 16 < n) (hk : k < n) (h : faultTo (rlStep l) k = 0) {E : Int} (he : rlStep l k = E) (h0 : E ≠ 0) : rlErr n l = E := by unfold rlErr; rw [if_neg hn]; exact faultTo_bad h he h0 n hk
section
variable {A : Option Addr} {n c : Nat} {l : List Rul} {w : World}
set_option maxRecDepth 20000 in
set_option maxHeartbeats 3200000 in
theorem bcheck_any (h : Sr w A n c l) (hf : FitR l) :
    Calls Try.prog 9 #[.slice A n c] w fun e w' => e = .returned (.int .i64 (rlErr n l)) ∧ Below w.heap.size w w' := by
  have hm := h.len_max
  have HF := hide hf
  have HL := hide h.rlen
  clear hf
  by_cases h16 : 16 < n
  · rw [show rlErr n l = 2 from if_pos h16]
    go_enter Try.func9, Try.ntmps9
    go_wp2_with fail
    go_ret
    exact ⟨rfl, Below.refl _ _⟩
  · have H16 := hide h16
    go_enter Try.func9, Try.ntmps9
    go_wp2_with fail
    go_loopw [11] (fun i wr => ∃ k : Nat, k ≤ n ∧ i = .int .i64 k ∧ Hid (faultTo (rlStep l) k = 0) ∧ Below w.heap.size w wr) (fun i _ => n - (intOf i).toNat)
    case atStart => exact ⟨0, Nat.zero_le _, rfl, hide rfl, Below.refl _ _⟩
    case round =>
      obtain ⟨k, hk, rfl, HK, hb⟩ := hrel
      by_cases hlt : k < n
      · have hsl := h.below hb
        have hlt0 := hlt
        obtain ⟨ad, r, rfl, hbk, hr, hc0, hc1, hc2⟩ := hsl.rcell hlt
        have HR := hide hr
        have hsz := HF.out r (List.mem_of_getElem? hr)
        clear hr
        obtain ⟨p, x, y⟩ := r
        dsimp only at hc0 hc1 hc2 hsz
        obtain ⟨E, hE⟩ : ∃ E, oneErr (p, x, y) = E := ⟨_, rfl⟩
        have CO := hide (fun w => one_any p x y w hsz)
        rw [hE] at CO
        have HE := hide hE
        clear hE
        have hwr : wr.heap.size ≤ (wr.alloc (.cells #[.string p, .int .i64 x, .int .i64 y] 24)).heap.size := by rw [World.size_alloc]; omega
        go_wp2_with fail
        refine (CO.out _).mono ?_
        rintro e w3 ⟨rfl, b3⟩
        have hb3 : Below w.heap.size w w3 := below_on (below_alloc hb _) b3
        have bl := (Blk.new wr 24 #[.string p, .int .i64 x, .int .i64 y]).below b3 (by rw [World.size_alloc]; exact Nat.lt_succ_self _)
        have blt := bl.lt
        have d0 := bl.at_ (i := 0) (u := .string p) rfl
        by_cases hE : E = 0
        · by_cases hk0 : k = 0
          · have HST := hide (faultTo_next HK.out (show rlStep l k = 0 by subst hk0; exact step_first HR.out (HE.out.trans hE)))
            subst hE
            have t0 : decide (0 < (k : Int)) = false := by rw [hk0]; rfl
            have t1 : ¬ 0 < (k : Int) := by omega
            have t4 : ¬ 0 < k := by omega
            have t5 : decide (0 < k) = false := decide_eq_false t4
            clear hk0
            go_wp2_with fail
            go_quiet (fail)
            go_wp2_with fail
            go_roundw
            case rel => exact ⟨k + 1, by omega, by go_num, HST, by repeat' (first | assumption | with_reducible exact Below.refl _ _ | with_reducible apply Below.drew | with_reducible apply below_drewN | with_reducible apply below_alloc | with_reducible refine below_set ?_ ?_ _ | (simp only [World.size_alloc, World.heap_drewN]; omega) | (simp; omega))⟩
            case measure => simp [intOf]; omega
          · obtain ⟨m, hkm⟩ : ∃ m : Nat, k = m + 1 := ⟨k - 1, by omega⟩
            obtain ⟨ad', q, had, hbk', hq, hq0, hq1, hq2⟩ := (h.below hb3).rcell (j := m) (by omega)
            injection had with had
            subst had
            have t0 : decide (0 < (k : Int)) = true := decide_eq_true (by omega)
            have t1 : 0 < (k : Int) := by omega
            have t4 : 0 < k := by omega
            have t5 : decide (0 < k) = true := decide_eq_true t4
            have t2 : IntKind.i64.wrap (m : Int) = (m : Int) := IntWalk.i64_in _ (by omega)
            have t3 : (k : Int) - 1 = (m : Int) := by omega
            have hmn : m < n := by omega
            obtain ⟨B, hB⟩ : ∃ B, ltB q.1 p = B := ⟨_, rfl⟩
            have hlt := less_of q.1 p
            rw [hB] at hlt
            have HST := hide (step_next (l := l) (k := k) HR.out (by rw [hkm]; exact hq) (by omega) (HE.out.trans hE) hB)
            subst hE
            clear hq hk0 hq1 hq2 hB
            obtain ⟨u, v⟩ := q
            dsimp only at hq0 hlt
            clear hkm
            cases B with
            | true =>
              have HN := hide (faultTo_next HK.out HST.out)
              go_wp2_with fail
              go_quiet (fail)
              go_wp2_with fail
              go_roundw
              case rel => exact ⟨k + 1, by omega, by go_num, HN, by repeat' (first | assumption | with_reducible exact Below.refl _ _ | with_reducible apply Below.drew | with_reducible apply below_drewN | with_reducible apply below_alloc | with_reducible refine below_set ?_ ?_ _ | (simp only [World.size_alloc, World.heap_drewN]; omega) | (simp; omega))⟩
              case measure => simp [intOf]; omega
            | false =>
              have HN := hide (rlErr_bad H16.out hlt0 HK.out HST.out (by decide))
              go_wp2_with fail
              go_quiet (fail)
              go_wp2_with fail
              rw [HN.out]
              go_ret
              exact ⟨rfl, by repeat' (first | assumption | with_reducible exact Below.refl _ _ | with_reducible apply Below.drew | with_reducible apply below_drewN | with_reducible apply below_alloc | with_reducible refine below_set ?_ ?_ _ | (simp only [World.size_alloc, World.heap_drewN]; omega) | (simp; omega))⟩
        · have t1 : (E != 0) = true := by simpa using hE
          have HST := hide (rlErr_bad H16.out hlt HK.out ((step_one HR.out (by rw [HE.out]; exact hE)).trans HE.out) hE)
          go_wp2_with fail
          rw [HST.out]
          go_ret
          exact ⟨rfl, hb3⟩
      · obtain rfl : k = n := by omega
        have HT := hide (show rlErr k l = 0 by unfold rlErr; rw [if_neg H16.out]; exact HK.out)
        go_wp2_with fail
        rw [HT.out]
        go_ret
        exact ⟨rfl, hb⟩
end
end Go.Proofs.Ytfopihlbdceepaa
