/-
  digit.Order: the walk. No condition.
-/
import Derived.Test.YtkliebhpdcjdgaaDoorFactS
import Derived.Test.YtkliebhpdcjdgaaDoorDel
import Derived.Test.YtkliebhpdcjdgaaDoorOwn2
import Derived.Test.YtkliebhpdcjdgaaDoorApp
namespace Go.Proofs.YtkliebhpdcjdgaaDoor
open Go.RowKit Go.Sort

theorem T_int : ElemT Tryd.prog 57 3 (.int .i64 0) 1 8 := ⟨Tryd.underlying57, by kernel_rfl, rfl, by decide⟩

def OrdRet (w : World) (n : Nat) (zs : List Int) (e : Ending) (w' : World) : Prop :=
  ∃ A c, e = .returned (.tuple #[.slice A n c, .int .i64 0]) ∧ Own w' w.heap.size 3 1 A n c (ints zs) ∧ Below w.heap.size w w'
section
variable {w : World} {n r : Int}
set_option maxRecDepth 20000 in
set_option maxHeartbeats 1600000 in
theorem order_arg (h : n < 0 ∨ 12 < n) :
    Calls Tryd.prog 36 #[.int .i64 n, .int .i64 r] w fun e w' => e = .returned (.tuple #[.slice none 0 0, .int .i64 1]) ∧ w = w' := by
  have key : n < 0 ∨ (¬ n < 0 ∧ 12 < n) := by omega
  clear h
  rcases key with k1 | ⟨k1, k2⟩
  all_goals
    go_enter Tryd.func36, Tryd.ntmps36
    go_wp2_with fail
    go_ret2
    exact ⟨rfl, rfl⟩
set_option maxRecDepth 20000 in
set_option maxHeartbeats 1600000 in
theorem order_none {m : Nat} (hm : m ≤ 12) (h : r < 0 ∨ (fac m : Int) ≤ r) :
    Calls Tryd.prog 36 #[.int .i64 m, .int .i64 r] w fun e w' => e = .returned (.tuple #[.slice none 0 0, .int .i64 4]) ∧ w = w' := by
  have HF := hide (fact_any m hm)
  obtain ⟨F, hF⟩ : ∃ F, (fac m : Int) = F := ⟨_, rfl⟩
  rw [hF] at h HF
  clear hF
  have key : r < 0 ∨ (¬ r < 0 ∧ F ≤ r) := by omega
  clear h
  rcases key with k1 | ⟨k1, k2⟩
  all_goals
    go_enter Tryd.func36, Tryd.ntmps36
    go_wp2_with (first | (go_at_call 55; refine (HF.out _).mono ?_; rintro e w' ⟨rfl, rfl⟩))
    go_ret2
    exact ⟨rfl, rfl⟩
end
section
variable {w : World}
set_option maxRecDepth 20000 in
set_option maxHeartbeats 1600000 in
theorem order_ok {m r : Nat} (hm : m ≤ 12) (hr : r < fac m) :
    Calls Tryd.prog 36 #[.int .i64 m, .int .i64 r] w (OrdRet w m (casts (unr (List.range m) m r))) := by
  have HF := hide fact_any
  have hf := (fac_i hm).2
  have hrF : (r : Int) < (fac m : Int) := by omega
  have HFm := hide (fact_any m hm)
  obtain ⟨F, hF⟩ : ∃ F, (fac m : Int) = F := ⟨_, rfl⟩
  rw [hF] at hrF HFm hf
  have HR := hide hr
  clear hF hr
  go_enter Tryd.func36, Tryd.ntmps36
  go_wp2_with (first | (go_at_call 55; refine (HFm.out _).mono ?_; rintro e w' ⟨rfl, rfl⟩))
  go_loopw [6, 26] (fun l i wr => ∃ (k : Nat) (A : Option Addr) (c : Nat), k ≤ m ∧ i = .int .i64 k ∧ l = .slice A k c ∧ Own wr w.heap.size 3 1 A k c (ints (casts (List.range k))) ∧ Below w.heap.size w wr) (fun _ i _ => m - (intOf i).toNat)
  case atStart => exact ⟨0, none, 0, Nat.zero_le _, rfl, rfl, Own.nil _ _ _ _, Below.refl _ _⟩
  case round =>
    obtain ⟨k, A, c, hk, rfl, rfl, own, hb⟩ := hrel
    have zr := hb.size
    by_cases hlt : k < m
    · go_wp2_with (at_builtin; refine wpList_append_sl T_int rfl _ _ rfl (by rfl) (by rfl) (own.alloc _) (Sl.lit (at_new _ _)) (ints_one [(k : Int)]) (by simp only [maxLen]; omega) (by omega) (by simp; omega) ?_; intro A2 c2 w2 ap)
      have own2 := ap.own
      have hb2 : Below w.heap.size w w2 := (hb.alloc zr _).trans ap.below
      rw [show ints (casts (List.range k)) ++ [Value.int .i64 (k : Int)] = ints (casts (List.range (k + 1))) from by rw [List.range_succ, casts_append, ints_append]; rfl] at own2
      clear ap
      go_wp2_with fail
      go_roundw
      case rel => exact ⟨k + 1, A2, c2, by omega, by go_num, rfl, own2, hb2⟩
      case measure => simp [intOf]; omega
    · obtain rfl : k = m := by omega
      go_wp2_with fail
      go_loopw [1, 6, 7, 9] (fun vr vl vo vi wr => ∃ (d ri : Nat) (lf ou : List Nat) (A A' : Option Addr) (c c' : Nat), d ≤ k ∧ vi = .int .i64 ((d : Int) - 1) ∧ vr = .int .i64 ri ∧ vl = .slice A d c ∧ vo = .slice A' (k - d) c' ∧ ri < fac d ∧ ou ++ unr lf d ri = unr (List.range k) k r ∧ Apart A A' ∧
          Own wr w.heap.size 3 1 A d c (ints (casts lf)) ∧ Own wr w.heap.size 3 1 A' (k - d) c' (ints (casts ou)) ∧ Below w.heap.size w wr) (fun _ _ _ i _ => (intOf i + 1).toNat)
      case atStart => exact ⟨k, r, List.range k, [], A, none, c, 0, Nat.le_refl _, rfl, rfl, rfl, by rw [Nat.sub_self], HR.out, rfl, Apart.nil' _, own, by rw [Nat.sub_self]; exact Own.nil _ _ _ _, hb⟩
      case round =>
        clear own hb zr hlt
        obtain ⟨d, ri, lf, ou, A, A', c, c', hd, rfl, rfl, rfl, rfl, hri, hun, hap, own, ow2, hb⟩ := hrel
        have zr := hb.size
        have HUN := hide hun
        clear hun
        by_cases h0 : 0 < d
        · obtain ⟨e, rfl⟩ : ∃ e, d = e + 1 := ⟨d - 1, by omega⟩
          have e1 : ((e + 1 : Nat) : Int) - 1 = (e : Int) := by omega
          rw [e1]
          obtain ⟨f1, f2⟩ := fac_i (k := e) (by omega)
          have hk1 := first_lt hri
          have hmod := Nat.mod_lt ri (fac_pos e)
          have q1 : (ri : Int) / (fac e : Int) = ((ri / fac e : Nat) : Int) := rfl
          have q2 : (ri : Int) % (fac e : Int) = ((ri % fac e : Nat) : Int) := rfl
          have hu : unr lf (e + 1) ri = lf.getD (ri / fac e) 0 :: unr (lf.eraseIdx (ri / fac e)) e (ri % fac e) := rfl
          have HFe := hide (fact_any e (by omega))
          have hri2 := (fac_i (k := e + 1) (by omega)).2
          have hri3 : (ri : Int) ≤ 479001600 := by omega
          obtain ⟨kk, hkk⟩ : ∃ kk, ri / fac e = kk := ⟨_, rfl⟩
          obtain ⟨r2, hr2⟩ : ∃ r2, ri % fac e = r2 := ⟨_, rfl⟩
          rw [hkk] at hk1 q1 hu
          rw [hr2] at hmod q2 hu
          obtain ⟨F, hF⟩ : ∃ F, (fac e : Int) = F := ⟨_, rfl⟩
          rw [hF] at f1 f2 q1 q2 HFe
          clear hkk hr2 hF
          have HMOD := hide hmod
          have HU := hide hu
          have HRI := hide hri
          clear hmod hu hri hri2
          obtain ⟨g, rfl, hg1, hg2⟩ := own.addr (by omega)
          have hll : lf.length = e + 1 := by have := own.sl.ilen; rwa [casts_len] at this
          have hx : lf[kk]? = some (lf.getD kk 0) := by rw [List.getD, List.getElem?_eq_getElem (by omega)]; rfl
          obtain ⟨x, hxe⟩ : ∃ x, lf.getD kk 0 = x := ⟨_, rfl⟩
          rw [hxe] at hx HU
          have hcx := own.cell (j := kk) (u := .int .i64 (x : Int)) (by rw [ints_getElem?, casts_at hx]; rfl)
          clear hx hxe
          go_wp2_with (first | (go_at_call 55; refine (HFe.out _).mono ?_; rintro e w' ⟨rfl, rfl⟩) | (at_builtin; refine wpList_append_sl T_int rfl _ _ rfl (by rfl) (by rfl) (ow2.alloc _) (Sl.lit (at_new _ _)) (ints_one [(x : Int)]) (by simp only [maxLen]; omega) (by omega) (by simp; omega) ?_; intro A2 c2 w2 ap))
          have ownD := (own.alloc (.cells #[.int .i64 (x : Int)] 3)).grown_apart ap hap.symm
          have hapn := ap.apart (own.alloc (.cells #[.int .i64 (x : Int)] 3)) hap.symm
          have ow3 := ap.own
          have hb2 : Below w.heap.size w w2 := (hb.alloc zr _).trans ap.below
          have e2 : k - (e + 1) + 1 = k - e := by omega
          rw [e2] at ow3 ⊢
          rw [show ints (casts ou) ++ [Value.int .i64 (x : Int)] = ints (casts (ou ++ [x])) from by rw [casts_append, ints_append]; rfl] at ow3
          clear ap
          refine (delete_row ownD (k := kk) (by omega) rfl).mono ?_
          rintro e' w3 ⟨rfl, dl⟩
          have ownF := dl.own
          rw [show (casts lf).eraseIdx kk = casts (lf.eraseIdx kk) from map_erase _ _ _] at ownF
          have ow4 := dl.far _ _ _ _ _ _ _ ow3 (fun hA => hapn g hA rfl)
          have hb3 := dl.below _ _ hb2 hg1
          clear dl ownD
          go_wp2_with fail
          go_roundw
          case rel => exact ⟨e, r2, lf.eraseIdx kk, ou ++ [x], _, A2, c, c2, by omega, rfl, rfl, rfl, rfl, HMOD.out, by rw [List.append_assoc, ← HUN.out, HU.out]; rfl, hapn.symm, ownF, ow4, hb3⟩
          case measure => simp [intOf]
        · obtain rfl : d = 0 := by omega
          have hou : ou = unr (List.range k) k r := by
            have := HUN.out
            rwa [show unr lf 0 ri = [] from rfl, List.append_nil] at this
          rw [hou, Nat.sub_zero] at ow2
          go_wp2_with fail
          go_ret2
          exact ⟨_, _, rfl, ow2, hb⟩
end
end Go.Proofs.YtkliebhpdcjdgaaDoor
