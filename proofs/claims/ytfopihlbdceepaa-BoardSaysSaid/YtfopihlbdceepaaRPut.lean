/-
  culref.Put: the walk. Conditions: the slice reads as a list of rules that may be; the text's length.
-/
import Derived.Test.YtfopihlbdceepaaJoined
namespace Go.Proofs.Ytfopihlbdceepaa
open Go.RowKit Go.Shelf

theorem joinR_one (l : List Rul) (r : Rul) : joinR l [r] = putR r l := rfl
theorem RlOk.one_ {r : Rul} (h : oneErr r = 0) : RlOk [r] := ⟨by simp, List.pairwise_singleton _ _, fun s hs => by rw [List.mem_singleton] at hs; rw [hs]; exact h⟩
theorem oldR_at {l : List Rul} {r s : Rul} {k : Nat} (hu : UpR l) (hr : l[k]? = some s) (e : s.1 = r.1) : oldR r l = newer s r := by
  unfold oldR
  rw [look_of hu (List.mem_of_getElem? hr) e]
section
variable {A : Option Addr} {n c : Nat} {l : List Rul} {w : World}
set_option maxRecDepth 20000 in
set_option maxHeartbeats 3200000 in
theorem rput_bad (v : Value) (p : ByteArray) (a b : Int) (hp : p.size ≤ 9223372036854775807) {E : Int} (hE : oneErr (p, a, b) = E) (h0 : E ≠ 0) :
    Calls Try.prog 10 #[v, .agg #[.string p, .int .i64 a, .int .i64 b]] w fun e w' => e = .returned (.tuple #[.slice none 0 0, .int .i64 E]) ∧ Below w.heap.size w w' := by
  have b0 := Blk.new w 24 #[.string p, .int .i64 a, .int .i64 b]
  have hb0 : Below w.heap.size w (w.alloc (.cells #[.string p, .int .i64 a, .int .i64 b] 24)) := by repeat' (first | assumption | with_reducible exact Below.refl _ _ | with_reducible apply Below.drew | with_reducible apply below_drewN | with_reducible apply below_alloc | with_reducible refine below_set ?_ ?_ _ | (simp only [World.size_alloc, World.heap_drewN]; omega) | (simp; omega))
  have CO := hide (fun w => rrule_any p a b w hp)
  rw [hE] at CO
  have t1 : (E != 0) = true := by simpa using h0
  clear hE h0
  go_enter Try.func10, Try.ntmps10
  go_wp2_with fail
  refine (CO.out _).mono ?_
  rintro e w1 ⟨rfl, b1⟩
  go_wp2_with fail
  go_ret2
  exact ⟨rfl, below_on hb0 b1⟩
set_option maxRecDepth 20000 in
set_option maxHeartbeats 6400000 in
theorem rput_ok (h : Sr w A n c l) (hok : RlOk l) (p : ByteArray) (a b : Int) (hp : p.size ≤ 9223372036854775807) (h1 : oneErr (p, a, b) = 0) :
    Calls Try.prog 10 #[.slice A n c, .agg #[.string p, .int .i64 a, .int .i64 b]] w fun e w' => ∃ A' n' c', e = .returned (.tuple #[.slice A' n' c', .int .i64 (putOut (p, a, b) l).1]) ∧ Sr w' A' n' c' (putOut (p, a, b) l).2 ∧ Below w.heap.size w w' := by
  have hm := h.len_max
  have b0 := Blk.new w 24 #[.string p, .int .i64 a, .int .i64 b]
  have hb0 : Below w.heap.size w (w.alloc (.cells #[.string p, .int .i64 a, .int .i64 b] 24)) := by repeat' (first | assumption | with_reducible exact Below.refl _ _ | with_reducible apply Below.drew | with_reducible apply below_drewN | with_reducible apply below_alloc | with_reducible refine below_set ?_ ?_ _ | (simp only [World.size_alloc, World.heap_drewN]; omega) | (simp; omega))
  have CO := hide (fun w => rrule_any p a b w hp)
  rw [h1] at CO
  have HOK := hide hok
  have HLN := hide h.rlen
  have HPO := hide (show putOut (p, a, b) l = if oldR (p, a, b) l = true then (8, []) else jo (putR (p, a, b) l) by unfold putOut; rw [if_neg (by rw [h1]; simp)])
  have H1 := hide h1
  clear hok h1
  go_enter Try.func10, Try.ntmps10
  go_wp2_with fail
  refine (CO.out _).mono ?_
  rintro e w1 ⟨rfl, bel1⟩
  have b1 := b0.below bel1 b0.lt
  have k1 := below_on hb0 bel1
  clear b0 hb0 bel1 CO
  go_wp2_with fail
  go_loopw [16] (fun i wr => ∃ k : Nat, k ≤ n ∧ i = .int .i64 k ∧ Hid (∀ j s, j < k → l[j]? = some s → s.1 = p → newer s (p, a, b) = false) ∧ Blk wr w.heap.size 24 #[.string p, .int .i64 a, .int .i64 b] ∧ Below w.heap.size w wr) (fun i _ => n - (intOf i).toNat)
  case atStart => exact ⟨0, Nat.zero_le _, rfl, hide (fun j s hj => by omega), b1, k1⟩
  case round =>
    clear b1 k1
    obtain ⟨k, hk, rfl, HN, bp, hb⟩ := hrel
    by_cases hlt : k < n
    · obtain ⟨ad, s, rfl, hbk, hs, hc0, hc1, hc2⟩ := (h.below hb).rcell hlt
      have HS := hide hs
      clear hs
      obtain ⟨q, x, y⟩ := s
      dsimp only at hc0 hc1 hc2
      have hb2 : Below w.heap.size w (wr.alloc (.cells #[.string q, .int .i64 x, .int .i64 y] 24)) := below_alloc hb _
      have bq := Blk.new wr 24 #[.string q, .int .i64 x, .int .i64 y]
      have bp2 := bp.alloc (.cells #[.string q, .int .i64 x, .int .i64 y] 24)
      have p0 := bp2.at_ (i := 0) (u := .string p) rfl
      have p1 := bp2.at_ (i := 1) (u := .int .i64 a) rfl
      have p2 := bp2.at_ (i := 2) (u := .int .i64 b) rfl
      have q0 := bq.at_ (i := 0) (u := .string q) rfl
      have q1 := bq.at_ (i := 1) (u := .int .i64 x) rfl
      have q2 := bq.at_ (i := 2) (u := .int .i64 y) rfl
      by_cases e : q = p
      · subst e
        have t1 : (q.toList == q.toList) = true := text_is rfl
        cases hn : newer (q, x, y) (q, a, b) with
        | true =>
          have CN := hide (fun w => rnewer_any q q x y a b w hn)
          have HP := hide (show putOut (q, a, b) l = (8, []) by rw [HPO.out, oldR_at (r := (q, a, b)) HOK.out.up HS.out rfl, hn]; rfl)
          clear hn
          go_upto_region 7 with fail
          clear bq hc0 hc1 hc2
          generalize (wr.alloc (.cells #[.string q, .int .i64 x, .int .i64 y] 24)) = wz at p0 p1 p2 q0 q1 q2 hb2 bp2 ⊢
          go_wp2_with fail
          refine (CN.out _).mono ?_
          rintro e w5 ⟨rfl, b5⟩
          go_wp2_with fail
          rw [HP.out]
          go_ret2
          exact ⟨none, 0, 0, rfl, Sl.nil _ _ 3, below_on hb2 b5⟩
        | false =>
          have CN := hide (fun w => rnewer_any q q x y a b w hn)
          have HN2 := hide (show ∀ j s, j < k + 1 → l[j]? = some s → s.1 = q → newer s (q, a, b) = false from fun j s hj hs he => by
            by_cases ej : j = k
            · subst ej; rw [HS.out] at hs; injection hs with hs; subst hs; exact hn
            · exact HN.out j s (by omega) hs he)
          clear hn
          go_upto_region 7 with fail
          clear bq hc0 hc1 hc2
          generalize (wr.alloc (.cells #[.string q, .int .i64 x, .int .i64 y] 24)) = wz at p0 p1 p2 q0 q1 q2 hb2 bp2 ⊢
          go_wp2_with fail
          refine (CN.out _).mono ?_
          rintro e w5 ⟨rfl, b5⟩
          have bp5 := bp2.below b5 bp2.lt
          go_wp2_with fail
          go_roundw
          case rel => exact ⟨k + 1, by omega, by go_num, HN2, bp5, below_on hb2 b5⟩
          case measure => simp [intOf]; omega
      · have t1 : (q.toList == p.toList) = false := text_not e
        have HN2 := hide (show ∀ j s, j < k + 1 → l[j]? = some s → s.1 = p → newer s (p, a, b) = false from fun j s hj hs he => by
          by_cases ej : j = k
          · subst ej; rw [HS.out] at hs; injection hs with hs; subst hs; exact absurd he e
          · exact HN.out j s (by omega) hs he)
        clear e
        go_upto_region 7 with fail
        clear bq hc0 hc1 hc2
        generalize (wr.alloc (.cells #[.string q, .int .i64 x, .int .i64 y] 24)) = wz at p0 p1 p2 q0 q1 q2 hb2 bp2 ⊢
        go_wp2_with fail
        go_roundw
        case rel => exact ⟨k + 1, by omega, by go_num, HN2, bp2, hb2⟩
        case measure => simp [intOf]; omega
    · obtain rfl : k = n := by omega
      have HP := hide (show putOut (p, a, b) l = jo (putR (p, a, b) l) by
        rw [HPO.out]
        refine if_neg ?_
        unfold oldR
        cases hl : look p l with
        | none => simp
        | some s =>
          obtain ⟨h5, h6⟩ := look_mem hl
          obtain ⟨j, hj⟩ := List.getElem?_of_mem h5
          have := HN.out j s (by have := (List.getElem?_eq_some_iff.1 hj).1; rw [HLN.out] at this; exact this) hj h6
          simp [this])
      have p0 := bp.at_ (i := 0) (u := .string p) rfl
      have p1 := bp.at_ (i := 1) (u := .int .i64 a) rfl
      have p2 := bp.at_ (i := 2) (u := .int .i64 b) rfl
      have hb3 : Below w.heap.size w (wr.alloc (.cells #[.string p, .int .i64 a, .int .i64 b] 24)) := below_alloc hb _
      have CJ := hide (joined_ok (h.on hb3) HOK.out (Sl.blk 3 1 (cs := rls [(p, a, b)]) (heap_alloc_new wr _) rfl (by simp [maxLen])) (RlOk.one_ H1.out))
      rw [joinR_one] at CJ
      go_wp2_with fail
      refine CJ.out.mono ?_
      rintro e w5 ⟨A', n', c', rfl, s5, b5⟩
      go_wp2_with fail
      rw [HP.out]
      go_ret2
      exact ⟨A', n', c', rfl, s5, below_on hb3 b5⟩
end
end Go.Proofs.Ytfopihlbdceepaa
