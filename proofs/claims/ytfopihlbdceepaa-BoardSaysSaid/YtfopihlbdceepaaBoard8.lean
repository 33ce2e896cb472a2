/-
  board.Put, all of it; board.Join: the walks. Conditions: the slices read as lists of rules; the texts' lengths.
-/
import Derived.Test.YtfopihlbdceepaaPutFull
import Derived.Test.YtfopihlbdceepaaPutIn
import Derived.Test.YtfopihlbdceepaaPutNew
import Derived.Test.YtfopihlbdceepaaPutSame
import Derived.Test.YtfopihlbdceepaaPutOld
namespace Go.Proofs.Ytfopihlbdceepaa
open Go.RowKit Go.Shelf

section
variable {A A2 : Option Addr} {n c n2 c2 : Nat} {l l2 : List Rul} {w : World}
theorem bput_ok (h : Sr w A n c l) (hok : RlOk l) (p : ByteArray) (a b : Int) (hp : p.size ≤ 9223372036854775807) :
    Calls Try.prog 5 #[.slice A n c, .agg #[.string p, .int .i64 a, .int .i64 b]] w fun e w' => ∃ A' n' c', e = .returned (.tuple #[.slice A' n' c', .int .i64 (putOut (p, a, b) l).1]) ∧ Sr w' A' n' c' (putOut (p, a, b) l).2 ∧ Below w.heap.size w w' := by
  have hln : l.length = n := h.rlen
  by_cases h1 : oneErr (p, a, b) = 0
  · have hPn : posR p l ≤ n := by rw [← hln]; exact posR_le p l
    cases hh : hasR p l with
    | false =>
      have hk := hasR_none hh
      by_cases e16 : n = 16
      · rw [put_full (r := (p, a, b)) hok h1 hk (hln.trans e16)]
        exact (bput_full h hok p a b hp h1 rfl hPn hh e16).mono fun e w' ⟨h2, h3⟩ => ⟨none, 0, 0, h2, Sl.nil _ _ 3, h3⟩
      · rw [put_in (r := (p, a, b)) hok h1 hk (by have := hok.len; omega)]
        exact (bput_in h hok p a b hp h1 rfl hPn hh e16).mono fun e w' ⟨A', c', h2, h3, h4⟩ => ⟨A', _, c', h2, h3, h4⟩
    | true =>
      obtain ⟨⟨q, x, y⟩, hq, hqp⟩ := hasR_some hok.up hh
      dsimp only at hqp
      have hlt : posR p l < n := by rw [← hln]; exact (List.getElem?_eq_some_iff.1 hq).1
      cases hn : newer (p, a, b) (q, x, y) with
      | true =>
        rw [put_new (r := (p, a, b)) hok h1 hq hqp hn]
        exact (bput_new h hok p a b hp h1 rfl hlt hh hq hn).mono fun e w' ⟨A', c', h2, h3, h4⟩ => ⟨A', _, c', h2, h3, h4⟩
      | false =>
        subst hqp
        by_cases he : a = x ∧ b = y
        · obtain ⟨rfl, rfl⟩ := he
          rw [put_same (r := (q, a, b)) hok h1 hq]
          exact (bput_same h hok q a b hp h1 rfl hlt hh hq hn).mono fun e w' ⟨A', c', h2, h3, h4⟩ => ⟨A', _, c', h2, h3, h4⟩
        · have hn2 : newer (q, x, y) (q, a, b) = true := by
            rcases newer_or (r := (q, a, b)) (s := (q, x, y)) rfl with h9 | h9 | h9
            · rw [hn] at h9; cases h9
            · exact h9
            · simp only [Prod.mk.injEq, true_and] at h9; exact absurd h9 he
          have hlk : look q l = some (q, x, y) := by rw [look_at q hok.up, hq]; dsimp only; rw [if_pos rfl]
          rw [put_old (r := (q, a, b)) h1 hlk hn2]
          exact (bput_old h hok q a b hp h1 rfl hlt hh hq hn he).mono fun e w' ⟨h2, h3⟩ => ⟨none, 0, 0, h2, Sl.nil _ _ 3, h3⟩
  · rw [put_bad (r := (p, a, b)) h1]
    exact (bput_arg h hok p a b hp rfl h1).mono fun e w' ⟨h2, h3⟩ => ⟨none, 0, 0, h2, Sl.nil _ _ 3, h3⟩

set_option maxRecDepth 20000 in
set_option maxHeartbeats 3200000 in
theorem bjoin_bad (h : Sr w A n c l) (hf : FitR l) (v : Value) {E : Int} (hE : rlErr n l = E) (h0 : E ≠ 0) :
    Calls Try.prog 6 #[.slice A n c, v] w fun e w' => e = .returned (.tuple #[.slice none 0 0, .int .i64 E]) ∧ Below w.heap.size w w' := by
  have t1 : (E != 0) = true := by simpa using h0
  have CC := hide (bcheck_any h hf)
  rw [hE] at CC
  clear hE h hf
  go_enter Try.func6, Try.ntmps6
  go_wp2_with fail
  refine CC.out.mono ?_
  rintro e w1 ⟨rfl, b1⟩
  go_wp2_with fail
  go_ret2
  exact ⟨rfl, b1⟩
set_option maxRecDepth 20000 in
set_option maxHeartbeats 3200000 in
theorem bjoin_bad2 (h : Sr w A n c l) (hok : RlOk l) (h2 : Sr w A2 n2 c2 l2) (hf : FitR l2) {E : Int} (hE : rlErr n2 l2 = E) (h0 : E ≠ 0) :
    Calls Try.prog 6 #[.slice A n c, .slice A2 n2 c2] w fun e w' => e = .returned (.tuple #[.slice none 0 0, .int .i64 E]) ∧ Below w.heap.size w w' := by
  have t1 : (E != 0) = true := by simpa using h0
  have CC := hide (bcheck_any h hok.fit)
  rw [rlErr_of h.rlen hok] at CC
  have CD := hide (fun w' (hb : Below w.heap.size w w') => bcheck_any (h2.on hb) hf)
  rw [hE] at CD
  clear hE h hf hok h2
  go_enter Try.func6, Try.ntmps6
  go_wp2_with fail
  refine CC.out.mono ?_
  rintro e w1 ⟨rfl, b1⟩
  go_wp2_with fail
  refine (CD.out _ b1).mono ?_
  rintro e w2 ⟨rfl, b2⟩
  go_wp2_with fail
  go_ret2
  exact ⟨rfl, below_on b1 b2⟩
theorem jo_ok {m : List Rul} (h : RlOk m) : jo m = (0, m) := if_neg (by have := h.len; omega)
set_option maxRecDepth 20000 in
set_option maxHeartbeats 6400000 in
theorem bjoin_ok (h : Sr w A n c l) (hok : RlOk l) (h2 : Sr w A2 n2 c2 l2) (hok2 : RlOk l2) :
    Calls Try.prog 6 #[.slice A n c, .slice A2 n2 c2] w fun e w' => ∃ A' n' c', e = .returned (.tuple #[.slice A' n' c', .int .i64 (jo (joinR l l2)).1]) ∧ Sr w' A' n' c' (jo (joinR l l2)).2 ∧ Below w.heap.size w w' := by
  have hm2 := h2.len_max
  have CC := hide (bcheck_any h hok.fit)
  rw [rlErr_of h.rlen hok] at CC
  have CD := hide (fun w' (hb : Below w.heap.size w w') => bcheck_any (h2.on hb) hok2.fit)
  rw [rlErr_of h2.rlen hok2] at CD
  have hn16 : n ≤ 16 := by rw [← h.rlen]; exact hok.len
  have hn216 : n2 ≤ 16 := by rw [← h2.rlen]; exact hok2.len
  have CL := hide (fun w' (hb : Below w.heap.size w w') => cloneR (h.on hb) (by omega))
  have HOK2 := hide hok2
  have H0 := hide (show RlOk (joinR l (l2.take 0)) from hok)
  have HL2 := hide h2.rlen
  clear hok hok2 h
  go_enter Try.func6, Try.ntmps6
  go_wp2_with fail
  refine CC.out.mono ?_
  rintro e w1 ⟨rfl, b1⟩
  go_wp2_with fail
  refine (CD.out _ b1).mono ?_
  rintro e w2 ⟨rfl, b2⟩
  have k2 := below_on b1 b2
  clear CC CD b2
  go_wp2_with fail
  refine (CL.out _ k2).mono ?_
  rintro e w3 ⟨AC, cC, rfl, own3, bel3⟩
  have k3 := below_on k2 bel3
  have s3 : Sr w3 AC n cC (joinR l (l2.take 0)) := own3.sl
  clear CL own3 bel3 k2 b1
  go_wp2_with fail
  go_loopw [8, 27] (fun o i wr => ∃ (k : Nat) (Ao : Option Addr) (no co : Nat), k ≤ n2 ∧ i = .int .i64 k ∧ o = .slice Ao no co ∧ Sr wr Ao no co (joinR l (l2.take k)) ∧ Hid (RlOk (joinR l (l2.take k))) ∧ Below w.heap.size w wr) (fun _ i _ => n2 - (intOf i).toNat)
  case atStart => exact ⟨0, AC, n, cC, Nat.zero_le _, rfl, rfl, s3, H0, k3⟩
  case round =>
    clear s3 k3 H0
    obtain ⟨k, Ao, no, co, hk, rfl, rfl, so, HO, hb⟩ := hrel
    by_cases hlt : k < n2
    · obtain ⟨ad, r, rfl, hbk, hr, hc0, hc1, hc2⟩ := (h2.below hb).rcell hlt
      have HS := hide (join_step HO.out HOK2.out hr)
      have hsz := (HOK2.out.small (List.mem_of_getElem? hr)).1
      clear hr
      obtain ⟨p, x, y⟩ := r
      dsimp only at hc0 hc1 hc2 hsz
      have hb2 : Below w.heap.size w (wr.alloc (.cells #[.string p, .int .i64 x, .int .i64 y] 24)) := below_alloc hb _
      have CP := hide (bput_ok (so.on (w' := wr.alloc (.cells #[.string p, .int .i64 x, .int .i64 y] 24)) (by repeat' (first | assumption | with_reducible exact Below.refl _ _ | with_reducible apply Below.drew | with_reducible apply below_drewN | with_reducible apply below_alloc | with_reducible refine below_set ?_ ?_ _ | (simp only [World.size_alloc, World.heap_drewN]; omega) | (simp; omega)))) HO.out p x y (by omega))
      have sk := so.on (w' := wr.alloc (.cells #[.string p, .int .i64 x, .int .i64 y] 24)) (by repeat' (first | assumption | with_reducible exact Below.refl _ _ | with_reducible apply Below.drew | with_reducible apply below_drewN | with_reducible apply below_alloc | with_reducible refine below_set ?_ ?_ _ | (simp only [World.size_alloc, World.heap_drewN]; omega) | (simp; omega)))
      rcases HS.out with ⟨e1, e2⟩ | ⟨e1, e2⟩ | ⟨e1, e2⟩
      · rw [e1] at CP
        have E2 := hide e2
        clear e1 e2 HS so
        go_wp2_with fail
        refine CP.out.mono ?_
        rintro e w5 ⟨A', n', c', rfl, s5, b5⟩
        go_wp2_with fail
        rw [E2.out]
        go_ret2
        exact ⟨none, 0, 0, rfl, Sl.nil _ _ 3, below_on hb2 b5⟩
      · rw [e1] at CP
        have E2 := hide e2
        clear e1 e2 HS so
        go_wp2_with fail
        refine CP.out.mono ?_
        rintro e w5 ⟨A', n', c', rfl, s5, b5⟩
        go_wp2_with fail
        go_roundw
        case rel => exact ⟨k + 1, Ao, no, co, by omega, by go_num, rfl, by rw [E2.out]; exact sk.on b5, by rw [E2.out]; exact HO, below_on hb2 b5⟩
        case measure => simp [intOf]; omega
      · rw [e1] at CP
        have E2 := hide e2
        clear e1 e2 HS so
        go_wp2_with fail
        refine CP.out.mono ?_
        rintro e w5 ⟨A', n', c', rfl, s5, b5⟩
        go_wp2_with fail
        go_roundw
        case rel => exact ⟨k + 1, A', n', c', by omega, by go_num, rfl, s5, E2, below_on hb2 b5⟩
        case measure => simp [intOf]; omega
    · obtain rfl : k = n2 := by omega
      have HJ := hide (show l2.take k = l2 from List.take_of_length_le (by rw [HL2.out]; exact Nat.le_refl _))
      rw [HJ.out] at so HO
      have HG := hide (jo_ok HO.out)
      go_wp2_with fail
      rw [HG.out]
      go_ret2
      exact ⟨Ao, no, co, rfl, so, hb⟩
end
end Go.Proofs.Ytfopihlbdceepaa
