/-
  few.less, few.added: the walks. Conditions: the counters read as a list of pairs; they rise; their bounds.
-/
import Derived.Test.YtfopihlbdceepaaGreatFindC
import Derived.Test.YtfopihlbdceepaaGreatInsC
namespace Go.Proofs.YtfopihlbdceepaaGreat
open Go.RowKit

theorem lessC_nil (d : Int) : lessC d [] = [] := rfl
theorem lessC_take {d : Int} {l : List Ct} {k : Nat} {x : Ct} (h : l[k]? = some x) : lessC d (l.take (k + 1)) = lessC d (l.take k) ++ (if d < x.2 then [(x.1, x.2 - d)] else []) := by
  unfold lessC
  rw [List.take_add_one, h]
  by_cases hd : d < x.2
  · simp [List.filter_append, hd]
  · simp [List.filter_append, hd]
theorem lessC_len (d : Int) (l : List Ct) : (lessC d l).length ≤ l.length := by unfold lessC; rw [List.length_map]; exact List.length_filter_le _ _
section
variable {A : Option Addr} {n c : Nat} {l : List Ct} {w : World}
set_option maxRecDepth 20000 in
set_option maxHeartbeats 3200000 in
theorem less_any {d : Int} (h : Sp w A n c l) (hd : 0 ≤ d) (hd2 : d ≤ 4000000000000000000) (hc : ∀ p ∈ l, 0 ≤ p.2 ∧ p.2 ≤ 4000000000000000000) (hn : n ≤ 1000) :
    Calls Tryz.prog 16 #[.slice A n c, .int .i64 d] w fun e w' => ∃ A' c', e = .returned (.slice A' (lessC d l).length c') ∧ Own w' w.heap.size 40 2 A' (lessC d l).length c' (prs (lessC d l)) ∧ Below w.heap.size w w' := by
  have hm := h.len_max
  have HL := hide h.plen
  have HC := hide hc
  have hbd : ∀ a b : Int, (Instr.build 40 #[(0, .int .i64 a), (1, .int .i64 b)]).run Tryz.prog = (Instr.build 40 #[(0, .int .i64 a), (1, .int .i64 b)]).run Tryz.prog := fun _ _ => rfl
  clear hc hbd
  go_enter Tryz.func16, Tryz.ntmps16
  go_wp2_with fail
  go_loopw [5, 10] (fun o i wr => ∃ (k no : Nat) (Ao : Option Addr) (co : Nat), i = .int .i64 k ∧ k ≤ n ∧ o = .slice Ao no co ∧ Hid (no = (lessC d (l.take k)).length) ∧ no ≤ k ∧ Own wr w.heap.size 40 2 Ao no co (prs (lessC d (l.take k))) ∧ Below w.heap.size w wr) (fun _ i _ => n - (intOf i).toNat)
  case atStart => exact ⟨0, 0, none, 0, rfl, Nat.zero_le _, rfl, hide rfl, Nat.le_refl _, Own.nil _ _ _ _, Below.refl _ _⟩
  case round =>
    obtain ⟨k, no, Ao, co, rfl, hk, rfl, HNO, hno, own, hb⟩ := hrel
    by_cases hlt : k < n
    · obtain ⟨ad, x, rfl, hbk, hx, hc0, hc1⟩ := (h.below hb).pcell hlt
      have HT := hide (lessC_take (d := d) hx)
      obtain ⟨b1, b2⟩ := HC.out x (List.mem_of_getElem? hx)
      clear hx
      obtain ⟨x1, x2⟩ := x
      dsimp only at hc0 hc1 b1 b2
      have hzr := hb.size
      have bq := Blk.new wr 40 #[.int .i64 x1, .int .i64 x2]
      have hb2 := below_alloc hb (.cells #[.int .i64 x1, .int .i64 x2] 40)
      have own2 := own.alloc (.cells #[.int .i64 x1, .int .i64 x2] 40)
      by_cases hgt : d < x2
      · have HT2 := hide (show lessC d (l.take (k + 1)) = lessC d (l.take k) ++ [(x1, x2 - d)] by rw [HT.out, if_pos hgt])
        have ez : IntKind.i64.wrap (x2 - d) = x2 - d := IntWalk.i64_in _ (by omega)
        have q0 := bq.at_ (i := 0) (u := .int .i64 x1) rfl
        have q1 := bq.at_ (i := 1) (u := .int .i64 x2) rfl
        have hsl := Sl.new (wr.alloc (.cells #[.int .i64 x1, .int .i64 x2] 40)) 40 2 1 (prs [(x1, x2 - d)]) (by simp [maxLen]) rfl
        rw [World.size_alloc] at hsl
        have own3 := own2.alloc (.cells #[.int .i64 x1, .int .i64 (x2 - d)] 40)
        have hb3 := below_alloc hb2 (.cells #[.int .i64 x1, .int .i64 (x2 - d)] 40)
        clear HT bq
        go_wp2_with (at_builtin; refine wpList_append_sl T_ctr rfl _ _ rfl (by rfl) (by rfl) own3 hsl (prs_one _) (by simp only [maxLen]; omega) (by omega) (by simp only [World.size_alloc]; omega) ?_; intro A3 c3 w3 ap)
        have own4 := ap.own
        rw [← prs_append] at own4
        have hb4 := hb3.trans ap.below
        go_roundw
        case rel => exact ⟨k + 1, no + 1, A3, c3, by go_num, by omega, rfl, by rw [HT2.out, List.length_append, ← HNO.out]; exact hide rfl, by omega, by rw [HT2.out]; exact own4, hb4⟩
        case measure => simp [intOf]; omega
      · have HT2 := hide (show lessC d (l.take (k + 1)) = lessC d (l.take k) by rw [HT.out, if_neg hgt, List.append_nil])
        clear HT
        go_wp2_with fail
        go_roundw
        case rel => exact ⟨k + 1, no, Ao, co, by go_num, by omega, rfl, by rw [HT2.out]; exact HNO, by omega, by rw [HT2.out]; exact own2, hb2⟩
        case measure => simp [intOf]; omega
    · obtain rfl : k = n := by omega
      have HE := hide (show l.take k = l from List.take_of_length_le (by rw [HL.out]; exact Nat.le_refl _))
      go_wp2_with fail
      go_ret
      rw [HE.out] at own HNO
      exact ⟨Ao, co, by rw [← HNO.out]; rfl, by rw [← HNO.out]; exact own, hb⟩
set_option maxRecDepth 20000 in
set_option maxHeartbeats 3200000 in
theorem added_any {key v : Int} (h : Sp w A n c l) (hu : UpK l) (hc : ∀ p ∈ l, 0 ≤ p.2 ∧ p.2 ≤ 4000000000000000000) (hv : 0 ≤ v) (hv2 : v ≤ 1000000000000) (hn : n ≤ 1000) :
    Calls Tryz.prog 13 #[.slice A n c, .int .i64 key, .int .i64 v] w fun e w' => ∃ A' c', e = .returned (.slice A' (addC key v l).length c') ∧ Own w' w.heap.size 40 2 A' (addC key v l).length c' (prs (addC key v l)) ∧ Below w.heap.size w w' := by
  have hl := h.plen
  have CL := hide (cloneC h (by omega))
  have CF := hide (fun w' A' c' (hs : Sp w' A' n c' l) => findC_any (key := key) hs hu hn)
  have hpn : posC key l ≤ n := by rw [← hl]; exact posC_le key l
  obtain ⟨P, hP⟩ : ∃ P, posC key l = P := ⟨_, rfl⟩
  have hat := addC_at key v hu
  rw [hP] at CF hat hpn
  have HLN := hide hl
  cases hh : hasC key l with
  | true =>
    rw [hh] at CF
    obtain ⟨s, hs, he⟩ : ∃ s, l[P]? = some s ∧ s.1 = key := by
      unfold hasC at hh
      rw [hP] at hh
      cases hs : l[P]? with
      | none => rw [hs] at hh; cases hh
      | some s => rw [hs] at hh; exact ⟨s, rfl, of_decide_eq_true hh⟩
    rw [hs] at hat
    dsimp only at hat
    rw [if_pos he] at hat
    obtain ⟨b1, b2⟩ := hc s (List.mem_of_getElem? hs)
    obtain ⟨s1, s2⟩ := s
    dsimp only at he hat b1 b2
    subst he
    have hPn : P < n := by rw [← hl]; exact (List.getElem?_eq_some_iff.1 hs).1
    have HS := hide hs
    have HAT := hide hat
    have HLA := hide (show (addC s1 v l).length = n by rw [hat, List.length_set, hl])
    have ez : IntKind.i64.wrap (s2 + v) = s2 + v := IntWalk.i64_in _ (by omega)
    clear hs hat h hu hc hh hP hl
    go_enter Tryz.func13, Tryz.ntmps13
    go_wp2_with fail
    refine CL.out.mono ?_
    rintro e w1 ⟨A1, c1, rfl, own1, bel1⟩
    go_wp2_with fail
    refine (CF.out _ _ _ own1.sl).mono ?_
    rintro e w2 ⟨rfl, bel2⟩
    have own2 := own1.below bel2 (Nat.le_refl _)
    obtain ⟨g, rfl, hg, hgl⟩ := own2.addr (by omega)
    have d1 := own2.cell (prs_at1 HS.out)
    have d0 := own2.cell (prs_at0 HS.out)
    have f1 := own2.free (P * 2 + 1)
    dsimp only at d0 d1
    have k2 := below_on bel1 bel2
    clear own1 bel1 bel2 CL CF
    go_wp2_with fail
    go_ret
    have o3 := own2.set (P * 2 + 1) (.int .i64 (s2 + v))
    rw [prs_set1 HS.out] at o3
    exact ⟨_, c1, by rw [HLA.out]; rfl, by rw [HLA.out, HAT.out]; exact o3, below_set k2 (by dsimp only; omega) _⟩
  | false =>
    rw [hh] at CF
    have HAT := hide (show addC key v l = l.take P ++ (key, v) :: l.drop P by
      rw [hat]
      cases hs : l[P]? with
      | none => rfl
      | some s =>
        dsimp only
        rw [if_neg]
        intro e
        unfold hasC at hh
        rw [hP, hs] at hh
        exact of_decide_eq_false hh e)
    have HLA := hide (show (addC key v l).length = n + 1 by rw [HAT.out, List.length_append, List.length_take, List.length_cons, List.length_drop]; omega)
    clear hat h hu hc hh hP hl
    go_enter Tryz.func13, Tryz.ntmps13
    go_wp2_with fail
    refine CL.out.mono ?_
    rintro e w1 ⟨A1, c1, rfl, own1, bel1⟩
    go_wp2_with fail
    refine (CF.out _ _ _ own1.sl).mono ?_
    rintro e w2 ⟨rfl, bel2⟩
    have own2 := own1.below bel2 (Nat.le_refl _)
    have k2 := below_on bel1 bel2
    have hz := k2.size
    clear own1 bel1 bel2 CL CF
    go_wp2_with fail
    refine (insC (x := (key, v)) (own2.alloc _) (Blk.new _ _ _) ?_ hpn (by simp only [World.size_alloc]; omega) (by omega)).mono ?_
    · intro e
      have := (own2.blk e).2
      omega
    · rintro e w3 ⟨A', c', rfl, own3, g3⟩
      have g4 : Below w.heap.size w w3 := by
        refine Below.grown ?_ g3 ?_ fun k hk => (own2.blk hk).1
        · repeat' (first | assumption | with_reducible exact Below.refl _ _ | with_reducible apply Below.drew | with_reducible apply below_drewN | with_reducible apply below_alloc | with_reducible refine below_set ?_ ?_ _ | (simp only [World.size_alloc, World.heap_drewN]; omega) | (simp; omega))
        · simp only [World.size_alloc]; omega
      go_wp2_with fail
      go_ret
      exact ⟨_, _, by rw [HLA.out]; rfl, by rw [HLA.out, HAT.out]; exact own3, g4⟩
end
end Go.Proofs.YtfopihlbdceepaaGreat
