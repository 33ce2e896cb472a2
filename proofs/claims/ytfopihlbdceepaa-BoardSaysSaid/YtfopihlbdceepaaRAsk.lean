/-
  culref.Ask: the walk. Conditions: the slice reads as a list of rules; it is short.
-/
import Derived.Test.YtfopihlbdceepaaBoard4
import Derived.Test.YtfopihlbdceepaaBoardQ
import Derived.Test.YtfopihlbdceepaaEqP
import Derived.Deep.Cut
namespace Go.Proofs.Ytfopihlbdceepaa
open Go.RowKit Go.Shelf

theorem text_is {a b : ByteArray} (h : a = b) : (a.toList == b.toList) = true := by rw [h]; simp
theorem text_not {a b : ByteArray} (h : ¬ a = b) : (a.toList == b.toList) = false := by
  rw [ByteArray.toList_eq, ByteArray.toList_eq, beq_eq_false_iff_ne]
  exact fun e => h (by8_inj e)
theorem look_take {key : ByteArray} {l : List Rul} {k : Nat} {r : Rul} (hr : l[k]? = some r) (h0 : look key (l.take k) = none) : (r.1 = key → look key l = some r) ∧ (¬ r.1 = key → look key (l.take (k + 1)) = none) := by
  have ha : ∀ (x y : List Rul), look key (x ++ y) = match look key x with | some s => some s | none => look key y := by
    intro x y
    induction x with
    | nil => rfl
    | cons s x ih =>
      show (if s.1 = key then some s else look key (x ++ y)) = match (if s.1 = key then some s else look key x) with | some s => some s | none => look key y
      by_cases e : s.1 = key
      · rw [if_pos e, if_pos e]
      · rw [if_neg e, if_neg e]; exact ih
  constructor
  · intro e
    have hd : l = l.take k ++ r :: l.drop (k + 1) := by
      have hk : k < l.length := (List.getElem?_eq_some_iff.1 hr).1
      have hx : l[k] = r := (List.getElem?_eq_some_iff.1 hr).2
      rw [← hx, List.getElem_cons_drop, List.take_append_drop]
    rw [hd, ha, h0]
    show look key (r :: _) = some r
    unfold look
    rw [if_pos e]
  · intro e
    rw [List.take_add_one, hr, ha, h0]
    show look key [r] = none
    unfold look
    rw [if_neg e]
    rfl
theorem askDown_hit {l : List Rul} {name : ByteArray} {m : Nat} {r : Rul} (h : look (name.extract 0 m) l = some r) : askDown l name m = r.2.1 := by
  cases m <;> (unfold askDown; rw [h])
theorem askDown_zero {l : List Rul} {name : ByteArray} (h : look (name.extract 0 0) l = none) : askDown l name 0 = -1 := by unfold askDown; rw [h]
theorem askDown_succ {l : List Rul} {name : ByteArray} {m : Nat} (h : look (name.extract 0 (m + 1)) l = none) : askDown l name (m + 1) = askDown l name m := by rw [askDown, h]
section
variable {A : Option Addr} {n c : Nat} {l : List Rul} {w : World} {name : ByteArray}
set_option maxRecDepth 20000 in
set_option maxHeartbeats 6400000 in
theorem rask_any (h : Sr w A n c l) (hn : n ≤ 1000) (hl : name.size ≤ 1000) :
    Calls Try.prog 13 #[.slice A n c, .string name] w fun e w' => e = .returned (.int .i64 (askDown l name name.size)) ∧ Below w.heap.size w w' := by
  have hm := h.len_max
  have HLN := hide h.rlen
  obtain ⟨R, hR⟩ : ∃ R, askDown l name name.size = R := ⟨_, rfl⟩
  have HR := hide hR
  rw [hR]
  clear hR
  go_enter Try.func13, Try.ntmps13
  go_wp2_with fail
  go_loopw [5] (fun i wr => ∃ m : Nat, m ≤ name.size + 1 ∧ i = .int .i64 ((m : Int) - 1) ∧ Hid (m = 0 → R = -1) ∧ Hid (∀ q, m = q + 1 → askDown l name q = R) ∧ Below w.heap.size w wr) (fun i _ => (intOf i + 1).toNat)
  case atStart => exact ⟨name.size + 1, Nat.le_refl _, by simp, hide (fun h => by omega), hide (fun q hq => by (obtain rfl : q = name.size := (by omega)); exact HR.out), Below.refl _ _⟩
  case round =>
    obtain ⟨m, hm1, rfl, H0, HQ, hb⟩ := hrel
    rcases Nat.eq_zero_or_pos m with hz | hz
    · have HZ := hide (H0.out hz)
      have t0 : ¬ (0 : Int) ≤ (m : Int) - 1 := by omega
      clear H0 HQ
      go_wp2_with fail
      rw [HZ.out]
      go_ret
      exact ⟨rfl, hb⟩
    · obtain ⟨q, rfl⟩ : ∃ q, m = q + 1 := ⟨m - 1, by omega⟩
      have HK := hide (HQ.out q rfl)
      clear H0 HQ hz
      rw [show ((q + 1 : Nat) : Int) - 1 = (q : Int) by omega]
      have hq : q ≤ name.size := by omega
      obtain ⟨key, hkey⟩ : ∃ key, name.extract 0 q = key := ⟨_, rfl⟩
      have HKEY := hide hkey
      obtain ⟨wo, rfl⟩ : ∃ wo : World, wo = wr := ⟨_, rfl⟩
      go_wp2_with fail
      go_loopw [16] (fun i wr => ∃ k : Nat, k ≤ n ∧ i = .int .i64 k ∧ Hid (look key (l.take k) = none) ∧ Below w.heap.size w wr) (fun i _ => n - (intOf i).toNat)
      case atStart => exact ⟨0, Nat.zero_le _, rfl, hide rfl, hb⟩
      case round =>
        clear hb
        obtain ⟨k, hk, rfl, HL, hb⟩ := hrel
        by_cases hlt : k < n
        · obtain ⟨ad, r, rfl, hbk, hr, hc0, hc1, hc2⟩ := (h.below hb).rcell hlt
          have HT := hide (look_take hr HL.out)
          clear hr
          obtain ⟨p, x, y⟩ := r
          dsimp only at hc0 hc1 hc2
          have hb2 : Below w.heap.size w (wr.alloc (.cells #[.string p, .int .i64 x, .int .i64 y] 24)) := below_alloc hb _
          have bp := Blk.new wr 24 #[.string p, .int .i64 x, .int .i64 y]
          have q0 := bp.at_ (i := 0) (u := .string p) rfl
          have q1 := bp.at_ (i := 1) (u := .int .i64 x) rfl
          by_cases e : p = key
          · have t1 : (p.toList == (name.extract 0 q).toList) = true := text_is (e.trans hkey.symm)
            have HF := hide (show x = R from (askDown_hit (r := (p, x, y)) (by rw [HKEY.out]; exact HT.out.1 e)).symm.trans HK.out)
            clear hkey e
            go_upto_region 7 with fail
            clear bp hc0 hc1 hc2
            generalize (wr.alloc (.cells #[.string p, .int .i64 x, .int .i64 y] 24)) = wz at q0 q1 hb2 ⊢
            go_quiet (fail)
            go_wp2_with fail
            rw [← HF.out]
            go_ret
            exact ⟨rfl, by repeat' (first | assumption | with_reducible exact Below.refl _ _ | with_reducible apply Below.drew | with_reducible apply below_drewN | with_reducible apply below_alloc | with_reducible refine below_set ?_ ?_ _ | (simp only [World.size_alloc, World.heap_drewN]; omega) | (simp; omega))⟩
          · have t1 : (p.toList == (name.extract 0 q).toList) = false := text_not (fun h => e (h.trans hkey))
            have HN := hide (HT.out.2 e)
            clear hkey e
            go_upto_region 7 with fail
            clear bp hc0 hc1 hc2
            generalize (wr.alloc (.cells #[.string p, .int .i64 x, .int .i64 y] 24)) = wz at q0 q1 hb2 ⊢
            go_quiet (fail)
            go_wp2_with fail
            go_roundw
            case rel => exact ⟨k + 1, by omega, by go_num, HN, by repeat' (first | assumption | with_reducible exact Below.refl _ _ | with_reducible apply Below.drew | with_reducible apply below_drewN | with_reducible apply below_alloc | with_reducible refine below_set ?_ ?_ _ | (simp only [World.size_alloc, World.heap_drewN]; omega) | (simp; omega))⟩
            case measure => simp [intOf]; omega
        · obtain rfl : k = n := by omega
          have HE := hide (show look (name.extract 0 q) l = none by rw [HKEY.out]; have := HL.out; rwa [List.take_of_length_le (by rw [HLN.out]; exact Nat.le_refl _)] at this)
          have HX := hide (show q = 0 → R = -1 from fun h => by subst h; rw [← HK.out]; exact askDown_zero HE.out)
          have HY := hide (show ∀ z, q = z + 1 → askDown l name z = R from fun z h => by subst h; rw [← HK.out]; exact (askDown_succ HE.out).symm)
          go_wp2_with fail
          go_roundw
          case rel => exact ⟨q, by omega, by go_num, HX, HY, hb⟩
          case measure => simp [intOf]
end
end Go.Proofs.Ytfopihlbdceepaa
