/-
  state.Check: the walk. Conditions: the slice reads as a list of pairs of texts; the texts' lengths.
-/
import Derived.Test.YtkliebhpdcjdgaaDoorState2
import Derived.Carry
import Derived.StringKeys
import Derived.Test.YtkliebhpdcjdgaaDoorSeen
import Derived.Test.YtkliebhpdcjdgaaDoorOwn2
namespace Go.Proofs.YtkliebhpdcjdgaaDoor
open Go.RowKit Go.Shelf Go.Maps

theorem prErr_large {n : Nat} {ps : List Pr} (h : 40 < n) : prErr n ps = 2 := if_pos h
theorem prErr_at {n k : Nat} {ps : List Pr} {c : Int} (h : ¬ 40 < n) (hk : k < n) (h0 : faultTo (prStep ps) k = 0) (hc : prStep ps k = c) (hne : c ≠ 0) : prErr n ps = c := by
  unfold prErr
  rw [if_neg h]
  exact faultTo_bad h0 hc hne n hk
theorem prErr_none {n : Nat} {ps : List Pr} (h : ¬ 40 < n) (h0 : faultTo (prStep ps) n = 0) : prErr n ps = 0 := by unfold prErr; rw [if_neg h]; exact h0
/-- The texts of an argument's pairs are not too long. -/
def Fit (ps : List Pr) : Prop := ∀ p ∈ ps, p.1.size ≤ 140737488351232 ∧ p.2.size ≤ 140737488351232
/-- Which keys the first k pairs hold. -/
def keysTo (ps : List Pr) (k : Nat) (y : Lit) : Bool := (ps.take k).any fun q => y.sameKey (.string (bl q.1))
theorem keysTo_next {ps : List Pr} {k : Nat} {p : Pr} (h : ps[k]? = some p) : (fun y : Lit => bif y.sameKey (.string (bl p.1)) then true else keysTo ps k y) = keysTo ps (k + 1) := by
  funext y
  unfold keysTo
  rw [List.take_add_one, h]
  simp only [Option.toList_some, List.any_append, List.any_cons, List.any_nil, Bool.or_false]
  cases y.sameKey (.string (bl p.1)) <;> simp
theorem keysTo_dup {ps : List Pr} {k : Nat} {p : Pr} (h : ps[k]? = some p) : keysTo ps k (.string (bl p.1)) = dupAt ps k := by
  unfold keysTo dupAt
  rw [getD_of h]
  congr 1
  funext q
  by_cases e : q.1 = p.1
  · rw [e, WideAt.sameKey_self (by trivial)]
    simp
  · rw [sameKey_ne (fun h => e (by injection h with h; exact ByteArray.ext (Array.toList_inj.1 h.symm)))]
    simp [e]

section
variable {A : Option Addr} {n c : Nat} {ps : List Pr} {w : World}
theorem Kst : Keyed Tryd.prog 9 := string_keyed Tryd.underlying9
set_option maxRecDepth 20000 in
set_option maxHeartbeats 3200000 in
theorem scheck_any (h : Sp2 w A n c ps) (hf : Fit ps) :
    Calls Tryd.prog 30 #[.slice A n c] w fun e w' => e = .returned (.int .i64 (prErr n ps)) ∧ Below w.heap.size w w' := by
  have hm := h.len_max
  have HL := hide h.slen
  have HF := hide hf
  clear hf
  by_cases g1 : 40 < n
  · rw [prErr_large g1]
    go_enter Tryd.func30, Tryd.ntmps30
    go_wp2_with fail
    go_ret
    exact ⟨rfl, Below.refl _ _⟩
  · have hmm := @run_makeMap Tryd.prog
    go_enter Tryd.func30, Tryd.ntmps30
    go_wp2_with fail
    clear hmm
    have hs0 : Seen Tryd.prog 9 4 (w.alloc (.map #[] 0)) w.heap.size 0 (keysTo ps 0) := Seen.made w _ _ _
    have hb0 : Below w.heap.size w (w.alloc (.map #[] 0)) := by repeat' (first | assumption | with_reducible exact Below.refl _ _ | with_reducible apply Below.drew | with_reducible apply below_drewN | with_reducible apply below_alloc | with_reducible refine below_set ?_ ?_ _ | (simp only [World.size_alloc, World.heap_drewN]; omega) | (simp; omega))
    have hl0 : w.heap.size < (w.alloc (.map #[] 0)).heap.size := by simp
    generalize w.alloc (.map #[] 0) = w1 at hs0 hb0 hl0 ⊢
    go_loopw [12] (fun i wr => ∃ k : Nat, k ≤ n ∧ i = .int .i64 k ∧ faultTo (prStep ps) k = 0 ∧ Below w.heap.size w wr ∧ Seen Tryd.prog 9 4 wr w.heap.size k (keysTo ps k)) (fun i _ => n - (intOf i).toNat)
    case atStart => exact ⟨0, by omega, rfl, rfl, hb0, hs0⟩
    case round =>
      obtain ⟨k, hk, rfl, hx, hbr, hsr⟩ := hrel
      have HX := hide hx
      clear hx
      by_cases hlt : k < n
      · obtain ⟨ad, p, rfl, hbk, hp, hc0, hc1⟩ := (h.below hbr).scell hlt
        have hpm := HF.out p (List.mem_of_getElem? hp)
        have HP := hide hp
        have HK := hide (show ∀ w, Calls Tryd.prog 28 #[.string p.1] w fun e w' => e = .returned (.bool (keyOk (bl p.1))) ∧ w = w' from fun w => skey_any (l := bl p.1) (by simpa [bl] using hpm.1) w)
        have HV := hide (show ∀ w, Calls Tryd.prog 51 #[.string p.2] w fun e w' => e = .returned (.bool (valOk (bl p.2))) ∧ w = w' from fun w => sval_any (l := bl p.2) (by simpa [bl] using hpm.2) w)
        have hkey : keyOf Tryd.prog 9 (.string p.1) = some (.string p.1.data.toList) := Go.WideMaps.keyOf_string_mk Tryd.underlying9 (by simp only [maxLen]; omega)
        have hs2 := hsr.alloc (Obj.cells #[.string p.1, .string p.2] 45)
        have hb2 : Below w.heap.size w (wr.alloc (Obj.cells #[.string p.1, .string p.2] 45)) := by repeat' (first | assumption | with_reducible exact Below.refl _ _ | with_reducible apply Below.drew | with_reducible apply below_drewN | with_reducible apply below_alloc | with_reducible refine below_set ?_ ?_ _ | (simp only [World.size_alloc, World.heap_drewN]; omega) | (simp; omega))
        have hsz2 : w.heap.size ≤ (wr.alloc (Obj.cells #[.string p.1, .string p.2] 45)).heap.size := hb2.size
        clear hp
        cases hkk : keyOk (bl p.1)
        · have HE := hide (show prErr n ps = 3 from prErr_at g1 hlt HX.out (prStep_form HP.out (by rw [hkk]; simp)) (by decide))
          rw [hkk] at HK
          clear hkk
          go_wp2_with fail
          refine (HK.out _).mono ?_
          rintro e w' ⟨rfl, rfl⟩
          go_wp2_with fail
          rw [HE.out]
          go_ret
          exact ⟨rfl, hb2⟩
        · cases hvv : valOk (bl p.2)
          · have HE := hide (show prErr n ps = 3 from prErr_at g1 hlt HX.out (prStep_form HP.out (by rw [hvv]; simp)) (by decide))
            rw [hkk] at HK
            rw [hvv] at HV
            clear hkk hvv
            go_wp2_with fail
            refine (HK.out _).mono ?_
            rintro e w' ⟨rfl, rfl⟩
            go_wp2_with fail
            refine (HV.out _).mono ?_
            rintro e w' ⟨rfl, rfl⟩
            go_wp2_with fail
            rw [HE.out]
            go_ret
            exact ⟨rfl, hb2⟩
          · cases hdd : dupAt ps k
            · have HN := hide (faultTo_next HX.out (prStep_ok HP.out hkk hvv hdd))
              have hkd : keysTo ps k (.string p.1.data.toList) = false := by rw [← hdd]; exact keysTo_dup HP.out
              rw [hkk] at HK
              rw [hvv] at HV
              clear hkk hvv hdd
              go_wp2_with fail
              refine (HK.out _).mono ?_
              rintro e w' ⟨rfl, rfl⟩
              go_wp2_with fail
              refine (HV.out _).mono ?_
              rintro e w' ⟨rfl, rfl⟩
              go_wp2_with (first | (at_lookup; refine wpList_seen_look rfl _ _ rfl hs2 Kst Tryd.underlying79 Tryd.underlying4 (Tryd.zeroValue4 _) rfl _ _ rfl hkey trivial ?_; rw [hkd]) | (at_mapUpdate; refine wpList_seen_put rfl _ _ _ rfl hs2 Kst Tryd.underlying79 Tryd.underlying4 (by simp only [maxLen]; omega) rfl _ _ _ rfl rfl hkey trivial ?_; intro w2 hs3 hgrow))
              refine ⟨⟨k + 1, by omega, by go_num, HN.out, hb2.grown hgrow hsz2 (fun j hj => by injection hj with hj; omega), by rw [← keysTo_next HP.out]; exact hs3⟩, by simp [intOf]; omega⟩
            · have HE := hide (show prErr n ps = 5 from prErr_at g1 hlt HX.out (prStep_there HP.out hkk hvv hdd) (by decide))
              have hkd : keysTo ps k (.string p.1.data.toList) = true := by rw [← hdd]; exact keysTo_dup HP.out
              rw [hkk] at HK
              rw [hvv] at HV
              clear hkk hvv hdd
              go_wp2_with fail
              refine (HK.out _).mono ?_
              rintro e w' ⟨rfl, rfl⟩
              go_wp2_with fail
              refine (HV.out _).mono ?_
              rintro e w' ⟨rfl, rfl⟩
              go_wp2_with (first | (at_lookup; refine wpList_seen_look rfl _ _ rfl hs2 Kst Tryd.underlying79 Tryd.underlying4 (Tryd.zeroValue4 _) rfl _ _ rfl hkey trivial ?_; rw [hkd]))
              rw [HE.out]
              go_ret
              exact ⟨rfl, hb2⟩
      · obtain rfl : k = n := by omega
        go_wp2_with fail
        rw [prErr_none g1 HX.out]
        go_ret
        exact ⟨rfl, hbr⟩
end
end Go.Proofs.YtkliebhpdcjdgaaDoor
