/-
  culref.Rule: the walk. Condition: the length of the text.
-/
import Derived.Test.YtfopihlbdceepaaBoard2
namespace Go.Proofs.Ytfopihlbdceepaa
open Go.RowKit Go.Shelf

/-- A text's bytes stand in a block. -/
def Sby (w : World) (g : Nat) (s : ByteArray) : Prop := g < w.heap.size ∧ ∀ k, k < s.size → w.cell? ⟨g, k, none⟩ = some (.int .u8 ((s.get! k).toNat : Int))
theorem Sby.below {w w' : World} {g : Nat} {s : ByteArray} (h : Sby w g s) (hb : Below w.heap.size w w') : Sby w' g s :=
  ⟨Nat.lt_of_lt_of_le h.1 hb.size, fun k hk => (hb.cell (p := ⟨g, k, none⟩) h.1).trans (h.2 k hk)⟩
theorem bad2 (b : UInt8) (w : World) : Calls Try.prog 55 #[.int .u8 (b.toNat : Int)] w fun e w' => e = .returned (.bool (badByte b)) ∧ w = w' := by
  have hlt := b.toNat_lt
  by_cases h1 : b.toNat < 33
  · have HB := hide (show badByte b = true from decide_eq_true (.inl h1))
    have h2 : (b.toNat : Int) < 33 := by omega
    go_enter Try.func55, Try.ntmps55
    go_wp2_with fail
    rw [HB.out]
    go_ret
    exact ⟨rfl, rfl⟩
  · by_cases h3 : 126 < b.toNat
    · have HB := hide (show badByte b = true from decide_eq_true (.inr h3))
      have h2 : ¬ (b.toNat : Int) < 33 := by omega
      have h4 : 126 < (b.toNat : Int) := by omega
      go_enter Try.func55, Try.ntmps55
      go_wp2_with fail
      rw [HB.out]
      go_ret
      exact ⟨rfl, rfl⟩
    · have HB := hide (show badByte b = false from decide_eq_false (by omega))
      have h2 : ¬ (b.toNat : Int) < 33 := by omega
      have h4 : ¬ 126 < (b.toNat : Int) := by omega
      go_enter Try.func55, Try.ntmps55
      go_wp2_with fail
      rw [HB.out]
      go_ret
      exact ⟨rfl, rfl⟩
/-- None of the first k bytes is bad. -/
def cleanTo (s : ByteArray) (k : Nat) : Bool := okTo (fun i => !badByte (s.get! i)) k
theorem clean_all (s : ByteArray) : cleanTo s s.size = !(by8 s).any badByte := by
  cases h : cleanTo s s.size with
  | true =>
    have : (by8 s).any badByte = false := by
      rw [List.any_eq_false]
      intro b hb
      obtain ⟨i, hi⟩ := List.getElem?_of_mem hb
      have hl : i < s.size := by have := (List.getElem?_eq_some_iff.1 hi).1; rwa [show (by8 s).length = s.size from Array.length_toList] at this
      have h2 := okTo_at (k := i) s.size h hl
      rw [get_by8 hl] at hi
      injection hi with hi
      subst hi
      simpa using h2
    rw [this]; rfl
  | false =>
    obtain ⟨i, hi, hb⟩ := okTo_no s.size h
    have : (by8 s).any badByte = true := by
      rw [List.any_eq_true]
      exact ⟨_, List.mem_of_getElem? (get_by8 hi), by simpa using hb⟩
    rw [this]; rfl
theorem get_at' {s : ByteArray} {k : Nat} (h : k < s.size) : s.get! k = s[k] := by
  have h' : k < s.data.size := h
  show s.data[k]! = s.data[k]
  exact getElem!_pos s.data k h'
set_option maxRecDepth 20000 in
set_option maxHeartbeats 1600000 in
theorem ifn_bytes (s : ByteArray) (g c : Nat) (w : World) (h : Sby w g s) (hs : s.size ≤ c) (hc : c ≤ 9223372036854775807) {B : Bool} (hb : (by8 s).any badByte = B) :
    Calls Try.prog 70 #[.slice (some ⟨g, 0, none⟩) s.size c, .func (.func 55) #[] #[]] w fun e w' => ∃ i : Int, e = .returned (.int .i64 i) ∧ decide (0 ≤ i) = B ∧ w = w' := by
  have eg := enters_fn Try.func55 rfl rfl
  have HC := hide h.2
  have HB := hide (clean_all s)
  rw [hb] at HB
  clear h hb
  go_enter Try.func70, Try.ntmps70
  go_wp2_with fail
  go_loop [8] (fun i => ∃ k : Nat, k ≤ s.size ∧ i = .int .i64 k ∧ Hid (cleanTo s k = true)) (fun i => s.size - (intOf i).toNat)
  case atStart => exact ⟨0, Nat.zero_le _, rfl, hide rfl⟩
  case round =>
    obtain ⟨k, hk, rfl, HN⟩ := hrel
    by_cases hlt : k < s.size
    · have hcell := HC.out k hlt
      cases hp : badByte (s.get! k)
      · have HP := hide (show (!badByte (s.get! k)) = true by rw [hp]; rfl)
        have HPX := hide hp
        clear hp
        generalize hv : s.get! k = v at hcell HPX
        have HV := hide hv
        clear hv
        go_wp2_with fail
        refine (bad2 v _).mono ?_
        rintro e w' ⟨rfl, rfl⟩
        rw [HPX.out]
        go_wp2_with fail
        go_round
        case rel => exact ⟨k + 1, by omega, by go_num, hide (okTo_next HN.out HP.out)⟩
        case measure => simp [intOf]; omega
      · have HP := hide (show (!badByte (s.get! k)) = false by rw [hp]; rfl)
        have HPX := hide hp
        clear hp
        generalize hv : s.get! k = v at hcell HPX
        have HV := hide hv
        clear hv
        go_wp2_with fail
        refine (bad2 v _).mono ?_
        rintro e w' ⟨rfl, rfl⟩
        rw [HPX.out]
        go_wp2_with fail
        go_ret
        refine ⟨k, rfl, ?_, rfl⟩
        have h1 : cleanTo s s.size = false := okTo_bad HP.out _ hlt
        have h2 := HB.out
        rw [h1] at h2
        have hB : B = true := by cases B with | true => rfl | false => exact absurd h2 (by decide)
        rw [hB]
        exact decide_eq_true (by omega)
    · obtain rfl : k = s.size := by omega
      go_wp2_with fail
      go_ret
      refine ⟨-1, rfl, ?_, rfl⟩
      have h2 := HB.out
      rw [HN.out] at h2
      have hB : B = false := by cases B with | false => rfl | true => exact absurd h2 (by decide)
      rw [hB]
      rfl
set_option maxRecDepth 20000 in
theorem cfn_bytes (s : ByteArray) (g c : Nat) (w : World) (h : Sby w g s) (hs : s.size ≤ c) (hc : c ≤ 9223372036854775807) {B : Bool} (hb : (by8 s).any badByte = B) :
    Calls Try.prog 54 #[.slice (some ⟨g, 0, none⟩) s.size c, .func (.func 55) #[] #[]] w fun e w' => e = .returned (.bool B) ∧ w = w' := by
  have HI := hide (ifn_bytes s g c w h hs hc hb)
  clear h hb
  go_enter Try.func54, Try.ntmps54
  go_wp2_with fail
  refine HI.out.mono ?_
  rintro e w' ⟨i, rfl, rfl, rfl⟩
  go_wp2_with fail
  go_ret
  exact ⟨rfl, rfl⟩
theorem by_of (w : World) (s : ByteArray) (c : Nat) (t : TypeId) : Sby (w.drew.alloc (.cells (bytesRow s c) t ((bytesRow s c).size, (bytesRow s c).size + 1))) w.heap.size s ∧ Below w.heap.size w (w.drew.alloc (.cells (bytesRow s c) t ((bytesRow s c).size, (bytesRow s c).size + 1))) := by
  refine ⟨⟨by rw [World.size_alloc]; exact Nat.lt_succ_self _, fun k hk => ?_⟩, by repeat' (first | assumption | with_reducible exact Below.refl _ _ | with_reducible apply Below.drew | with_reducible apply below_drewN | with_reducible apply below_alloc | with_reducible refine below_set ?_ ?_ _ | (simp only [World.size_alloc, World.heap_drewN]; omega) | (simp; omega))⟩
  rw [show w.heap.size = w.drew.heap.size from rfl, World.cell?_alloc_mark]
  have hk' : k < s.data.size := hk
  unfold bytesRow
  rw [Array.getElem?_append_left (by simpa using hk'), get_at' hk]
  simp [hk']
  exact ⟨s.data[k], by simp [hk'], rfl⟩
set_option maxRecDepth 20000 in
set_option maxHeartbeats 3200000 in
theorem rrule_any (p : ByteArray) (a b : Int) (w : World) (hp : p.size ≤ 9223372036854775807) : Calls Try.prog 28 #[.agg #[.string p, .int .i64 a, .int .i64 b]] w fun e w' => e = .returned (.int .i64 (oneErr (p, a, b))) ∧ Below w.heap.size w w' := by
  have b0 := Blk.new w 24 #[.string p, .int .i64 a, .int .i64 b]
  have hb0 : Below w.heap.size w (w.alloc (.cells #[.string p, .int .i64 a, .int .i64 b] 24)) := by repeat' (first | assumption | with_reducible exact Below.refl _ _ | with_reducible apply Below.drew | with_reducible apply below_drewN | with_reducible apply below_alloc | with_reducible refine below_set ?_ ?_ _ | (simp only [World.size_alloc, World.heap_drewN]; omega) | (simp; omega))
  by_cases h16 : 16 < p.size
  · have HE := hide (oneErr_pre (r := (p, a, b)) (preBad_len h16))
    go_enter Try.func28, Try.ntmps28
    go_wp2_with fail
    rw [HE.out]
    go_ret
    exact ⟨rfl, hb0⟩
  · obtain ⟨B, hB⟩ : ∃ B, (by8 p).any badByte = B := ⟨_, rfl⟩
    have hpre := preBad_ok h16 hB
    have HPRE := hide hpre
    have CF := hide (fun g c w (h : Sby w g p) (hs : p.size ≤ c) (hc : c ≤ 9223372036854775807) => cfn_bytes p g c w h hs hc hB)
    clear hB hpre
    go_enter Try.func28, Try.ntmps28
    go_wp2_with fail
    rw [run_bytes_of_string _ _ _ 5 p (by kernel_rfl) (by kernel_rfl) (by kernel_rfl)]
    generalize w.alloc (.cells #[.string p, .int .i64 a, .int .i64 b] 24) = w1 at b0 hb0 ⊢
    have hcap : p.size ≤ grownCap w1 p.size 0 5 ∧ grownCap w1 p.size 0 5 ≤ 9223372036854775807 := ⟨grownCap_ge _ _ _ _, by have := grownCap_le_maxLen w1 p.size 0 5 (by simp only [maxLen]; omega); simpa [maxLen] using this⟩
    obtain ⟨hby, hb1⟩ := by_of w1 p (grownCap w1 p.size 0 5) 5
    generalize w1.drew.alloc (.cells (bytesRow p (grownCap w1 p.size 0 5)) 5 ((bytesRow p (grownCap w1 p.size 0 5)).size, (bytesRow p (grownCap w1 p.size 0 5)).size + 1)) = w2 at hby hb1 ⊢
    generalize grownCap w1 p.size 0 5 = cap at hcap ⊢
    obtain ⟨hc1, hc2⟩ := hcap
    have b1 := b0.below hb1 b0.lt
    have hb2 : Below w.heap.size w w2 := below_on hb0 hb1
    have c1 := b1.at_ (i := 1) (u := .int .i64 a) rfl
    have c2 := b1.at_ (i := 2) (u := .int .i64 b) rfl
    go_wp2_with fail
    refine (CF.out _ _ _ hby hc1 hc2).mono ?_
    rintro e w3 ⟨rfl, rfl⟩
    cases B with
    | true =>
      have HE := hide (oneErr_pre (r := (p, a, b)) HPRE.out)
      go_wp2_with fail
      rw [HE.out]
      go_ret
      exact ⟨rfl, hb2⟩
    | false =>
      have hpre := HPRE.out
      by_cases hl : 0 ≤ a ∧ a ≤ 20
      · have t1 := hide (inR_yes (x := a) (a := 0) (b := 20) hl)
        by_cases hm : 1 ≤ b ∧ b ≤ 1000000000000
        · have t2 := hide (inR_yes (x := b) (a := 1) (b := 1000000000000) hm)
          have HE := hide (show oneErr (p, a, b) = 0 from oneErr_ok hpre (by unfold argBad; dsimp only; omega))
          go_wp2_with fail
          refine (within_any _ _ _ _).mono ?_
          rintro e w' ⟨rfl, rfl⟩
          rw [t1.out]
          go_wp2_with fail
          refine (within_any _ _ _ _).mono ?_
          rintro e w' ⟨rfl, rfl⟩
          rw [t2.out]
          go_wp2_with fail
          rw [HE.out]
          go_ret
          exact ⟨rfl, hb2⟩
        · have t2 := hide (inR_no (x := b) (a := 1) (b := 1000000000000) hm)
          have HE := hide (show oneErr (p, a, b) = 1 from oneErr_arg hpre (by unfold argBad; dsimp only; omega))
          go_wp2_with fail
          refine (within_any _ _ _ _).mono ?_
          rintro e w' ⟨rfl, rfl⟩
          rw [t1.out]
          go_wp2_with fail
          refine (within_any _ _ _ _).mono ?_
          rintro e w' ⟨rfl, rfl⟩
          rw [t2.out]
          go_wp2_with fail
          rw [HE.out]
          go_ret
          exact ⟨rfl, hb2⟩
      · have t1 := hide (inR_no (x := a) (a := 0) (b := 20) hl)
        have HE := hide (show oneErr (p, a, b) = 1 from oneErr_arg hpre (by unfold argBad; dsimp only; omega))
        go_wp2_with fail
        refine (within_any _ _ _ _).mono ?_
        rintro e w' ⟨rfl, rfl⟩
        rw [t1.out]
        go_wp2_with fail
        rw [HE.out]
        go_ret
        exact ⟨rfl, hb2⟩
end Go.Proofs.Ytfopihlbdceepaa
