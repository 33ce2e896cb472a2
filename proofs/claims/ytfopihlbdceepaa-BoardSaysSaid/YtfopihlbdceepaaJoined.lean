/-
  culref.Joined: the walk. Conditions: the slices read as lists of rules that may be.
-/
import Derived.Test.YtfopihlbdceepaaLess
import Derived.Test.YtfopihlbdceepaaBoard7
namespace Go.Proofs.Ytfopihlbdceepaa
open Go.RowKit Go.Shelf Go.Maps

theorem Kstr : Keyed Try.prog 9 := string_keyed Try.underlying9
theorem zrule (w : World) : (zeroValue 24).run Try.prog w = .ok (rlA (⟨#[]⟩, 0, 0)) w := by kernel_rfl
theorem atR_of {key : ByteArray} {m : List Rul} {s : Rul} (h : look key m = some s) : atR key m = s := by unfold atR; rw [h]; rfl
theorem atR_no {key : ByteArray} {m : List Rul} (h : look key m = none) : atR key m = (⟨#[]⟩, 0, 0) := by unfold atR; rw [h]; rfl
theorem join_nil {a : List Rul} (h : UpR a) : joinR [] a = a := by rw [joinR_self (by simpa using h)]; rfl
theorem join_both {a b : List Rul} (h : UpR a) : joinR [] (a ++ b) = joinR a b := by rw [joinR_append, join_nil h]
theorem joinR_le : ∀ (l m : List Rul), (joinR m l).length ≤ m.length + l.length
  | [], _ => Nat.le_refl _
  | r :: l, m => by
    have := joinR_le l (putR r m)
    have h2 := (putR_len r m).2
    show (joinR (putR r m) l).length ≤ _
    simp only [List.length_cons]
    omega
section
variable {A A2 : Option Addr} {n c n2 c2 : Nat} {l l2 : List Rul} {w : World}
set_option maxRecDepth 20000 in
set_option maxHeartbeats 6400000 in
theorem joined_ok (h : Sr w A n c l) (hok : RlOk l) (h2 : Sr w A2 n2 c2 l2) (hok2 : RlOk l2) :
    Calls Try.prog 12 #[.slice A n c, .slice A2 n2 c2] w fun e w' => ∃ A' n' c', e = .returned (.tuple #[.slice A' n' c', .int .i64 (jo (joinR l l2)).1]) ∧ Sr w' A' n' c' (jo (joinR l l2)).2 ∧ Below w.heap.size w w' := by
  have hn16 : n ≤ 16 := by rw [← h.rlen]; exact hok.len
  have hn216 : n2 ≤ 16 := by rw [← h2.rlen]; exact hok2.len
  obtain ⟨N, hN⟩ : ∃ N, n + n2 = N := ⟨_, rfl⟩
  obtain ⟨L, hL⟩ : ∃ L, l ++ l2 = L := ⟨_, rfl⟩
  have hLN : L.length = N := by rw [← hL, List.length_append, h.rlen, h2.rlen]; exact hN
  have HJ := hide (show joinR l l2 = joinR [] (L.take N) by rw [List.take_of_length_le (by omega), ← hL, join_both hok.up])
  have HSZ := hide (show ∀ r ∈ L, r.1.size ≤ 16 from fun r hr => by
    rw [← hL] at hr
    rcases List.mem_append.1 hr with hr | hr
    · exact (hok.small hr).1
    · exact (hok2.small hr).1)
  have HLN := hide hLN
  have hN32 : N ≤ 32 := by omega
  have hmm := @run_makeMap Try.prog
  have CC := hide (fun w' gl (hb : Below w.heap.size w w') (hg : Blk w' gl 22 #[.slice A n c, .slice A2 n2 c2]) => concat2R hg (h.on hb) (h2.on hb) (by omega) (by omega))
  rw [hN, hL] at CC
  clear h h2 hok hok2 hLN hL hN hn16 hn216
  go_enter Try.func12, Try.ntmps12
  go_wp2_with fail
  clear hmm
  have hs0 : MapR Try.prog 9 (w.alloc (.map #[] 0)) w.heap.size 0 [] := MapR.made w _ _
  have hb0 : Below w.heap.size w ((w.alloc (.map #[] 0)).alloc (.cells #[.slice A n c, .slice A2 n2 c2] 22)) := by repeat' (first | assumption | with_reducible exact Below.refl _ _ | with_reducible apply Below.drew | with_reducible apply below_drewN | with_reducible apply below_alloc | with_reducible refine below_set ?_ ?_ _ | (simp only [World.size_alloc, World.heap_drewN]; omega) | (simp; omega))
  have hg0 : Blk ((w.alloc (.map #[] 0)).alloc (.cells #[.slice A n c, .slice A2 n2 c2] 22)) (w.heap.size + 1) 22 #[.slice A n c, .slice A2 n2 c2] := by
    have := Blk.new (w.alloc (.map #[] 0)) 22 #[.slice A n c, .slice A2 n2 c2]
    rwa [World.size_alloc] at this
  refine (CC.out _ _ hb0 hg0).mono ?_
  rintro e w2 ⟨AC, cC, rfl, own2, bel2⟩
  have hs2 : MapR Try.prog 9 w2 w.heap.size 0 [] := (hs0.alloc _).below bel2 (by simp only [World.size_alloc]; omega)
  have hb2 := below_on hb0 bel2
  have own3 : Own w2 (w.heap.size + 1) 24 3 AC N cC (rls L) := own2.mono (by simp)
  clear hs0 hb0 own2 bel2 CC hg0
  go_wp2_with fail
  go_loopw [20] (fun i wr => ∃ k : Nat, k ≤ N ∧ i = .int .i64 k ∧ MapR Try.prog 9 wr w.heap.size k (joinR [] (L.take k)) ∧ Own wr (w.heap.size + 1) 24 3 AC N cC (rls L) ∧ Below w.heap.size w wr) (fun i _ => N - (intOf i).toNat)
  case atStart => exact ⟨0, Nat.zero_le _, rfl, hs2, own3, hb2⟩
  case round =>
    clear hs2 hb2 own3
    obtain ⟨k, hk, rfl, hmp, own, hb⟩ := hrel
    have HU := hide (show UpR (joinR [] (L.take k)) from joinR_up List.Pairwise.nil)
    by_cases hlt : k < N
    · obtain ⟨ad, r, rfl, hbk, hr, hc0, hc1, hc2⟩ := own.sl.rcell hlt
      have hsz := HSZ.out r (List.mem_of_getElem? hr)
      have HT := hide (joinR_take (m := []) hr)
      clear hr
      obtain ⟨m, hm⟩ : ∃ m, joinR [] (L.take k) = m := ⟨_, rfl⟩
      rw [hm] at hmp HU HT
      clear hm
      obtain ⟨p, x, y⟩ := r
      dsimp only at hc0 hc1 hc2 hsz
      have hml : p.size ≤ maxLen := by simp only [maxLen]; omega
      have hrow : ∀ g', some ad = some ⟨g', 0, none⟩ → some w.heap.size ≠ some g' := fun g' e e2 => by
        have := (own.blk (g := g') (by rw [e]; rfl)).1
        injection e2 with e2
        omega
      have hb2 : Below w.heap.size w (wr.alloc (.cells #[.string p, .int .i64 x, .int .i64 y] 24)) := below_alloc hb _
      have bp := Blk.new wr 24 #[.string p, .int .i64 x, .int .i64 y]
      have mp2 := hmp.alloc (.cells #[.string p, .int .i64 x, .int .i64 y] 24)
      have own2 := own.alloc (.cells #[.string p, .int .i64 x, .int .i64 y] 24)
      cases hl : look p m with
      | none =>
        have ha := atR_no hl
        have hi : (look p m).isSome = false := by rw [hl]; rfl
        have HNEW := hide (show ∀ s, look p m = some s → newer (p, x, y) s = true from fun s hs => by rw [hl] at hs; cases hs)
        have HA := hide ha
        have HI := hide hi
        clear ha hi hl hmp own
        go_upto_region 5 with fail
        clear hc0 hc1 hc2
        have q0 := bp.at_ (i := 0) (u := .string p) rfl
        have q1 := bp.at_ (i := 1) (u := .int .i64 x) rfl
        have q2 := bp.at_ (i := 2) (u := .int .i64 y) rfl
        have ql := bp.lt
        generalize (wr.alloc (.cells #[.string p, .int .i64 x, .int .i64 y] 24)) = wz at q0 q1 q2 hb2 mp2 own2 bp ql ⊢
        have mp3 := mp2.alloc (.cells #[.string ⟨#[]⟩, .int .i64 0, .int .i64 0] 24)
        have own3 := own2.alloc (.cells #[.string ⟨#[]⟩, .int .i64 0, .int .i64 0] 24)
        go_wp2_with (first
          | (at_lookup; refine wpList_mapr_look rfl _ _ rfl mp2 Kstr Try.underlying9 Try.underlying60 (zrule _) rfl p rfl hml HA.out HI.out ?_)
          | (at_mapUpdate; refine wpList_mapr_put rfl _ _ _ rfl mp3 Kstr Try.underlying9 Try.underlying60 (by simp only [maxLen]; omega) rfl (p, x, y) rfl rfl hml HU.out HNEW.out ?_; intro w5 mp5 g5))
        have own5 := own3.grown g5 hrow
        have hb5 := (below_alloc hb2 (.cells #[.string ⟨#[]⟩, .int .i64 0, .int .i64 0] 24)).grown g5 (by have := hb2.size; simp; omega) (fun k hk => by injection hk with hk; omega)
        go_roundw
        case rel => exact ⟨k + 1, by omega, by go_num, by rw [HT.out]; exact mp5, own5, hb5⟩
        case measure => simp [intOf]; omega
      | some s =>
        obtain ⟨q, u, v⟩ := s
        have hqp : q = p := (look_mem hl).2
        subst hqp
        have HA := hide (atR_of hl)
        have HI := hide (show (look q m).isSome = true by rw [hl]; rfl)
        cases hn : newer (q, x, y) (q, u, v) with
        | true =>
          have HNEW := hide (show ∀ s, look q m = some s → newer (q, x, y) s = true from fun s hs => by rw [hl] at hs; injection hs with hs; subst hs; exact hn)
          have CN := hide (fun w => rnewer_any q q x y u v w hn)
          clear hl hn hmp own
          go_upto_region 5 with fail
          clear hc0 hc1 hc2
          have q0 := bp.at_ (i := 0) (u := .string q) rfl
          have q1 := bp.at_ (i := 1) (u := .int .i64 x) rfl
          have q2 := bp.at_ (i := 2) (u := .int .i64 y) rfl
          have ql := bp.lt
          generalize (wr.alloc (.cells #[.string q, .int .i64 x, .int .i64 y] 24)) = wz at q0 q1 q2 hb2 mp2 own2 bp ql ⊢
          have mp3 := mp2.alloc (.cells #[.string q, .int .i64 u, .int .i64 v] 24)
          have own3 := own2.alloc (.cells #[.string q, .int .i64 u, .int .i64 v] 24)
          have bp3 := bp.alloc (.cells #[.string q, .int .i64 u, .int .i64 v] 24)
          have hb3 := below_alloc hb2 (.cells #[.string q, .int .i64 u, .int .i64 v] 24)
          go_wp2_with (at_lookup; refine wpList_mapr_look rfl _ _ rfl mp2 Kstr Try.underlying9 Try.underlying60 (zrule _) rfl q rfl hml HA.out HI.out ?_)
          refine (CN.out _).mono ?_
          rintro e w4 ⟨rfl, bel4⟩
          have mp4 := mp3.below bel4 mp3.lt
          have own4 := own3.below bel4 (Nat.le_refl _)
          have bp4 := bp3.below bel4 bp3.lt
          have hb4 := below_on hb3 bel4
          clear mp3 own3 bp3 hb3 mp2 own2 bp q0 q1 q2 ql bel4
          have q0 := bp4.at_ (i := 0) (u := .string q) rfl
          have q1 := bp4.at_ (i := 1) (u := .int .i64 x) rfl
          have q2 := bp4.at_ (i := 2) (u := .int .i64 y) rfl
          go_wp2_with (at_mapUpdate; refine wpList_mapr_put rfl _ _ _ rfl mp4 Kstr Try.underlying9 Try.underlying60 (by simp only [maxLen]; omega) rfl (q, x, y) rfl rfl hml HU.out HNEW.out ?_; intro w5 mp5 g5)
          have own5 := own4.grown g5 hrow
          have hb5 := hb4.grown g5 hb4.size (fun k hk => by injection hk with hk; omega)
          go_roundw
          case rel => exact ⟨k + 1, by omega, by go_num, by rw [HT.out]; exact mp5, own5, hb5⟩
          case measure => simp [intOf]; omega
        | false =>
          have HOLD := hide (putR_old (r := (q, x, y)) HU.out hl hn)
          have CN := hide (fun w => rnewer_any q q x y u v w hn)
          clear hl hn hmp own
          go_upto_region 5 with fail
          clear hc0 hc1 hc2
          have q0 := bp.at_ (i := 0) (u := .string q) rfl
          have q1 := bp.at_ (i := 1) (u := .int .i64 x) rfl
          have q2 := bp.at_ (i := 2) (u := .int .i64 y) rfl
          have ql := bp.lt
          generalize (wr.alloc (.cells #[.string q, .int .i64 x, .int .i64 y] 24)) = wz at q0 q1 q2 hb2 mp2 own2 bp ql ⊢
          have mp3 := mp2.alloc (.cells #[.string q, .int .i64 u, .int .i64 v] 24)
          have own3 := own2.alloc (.cells #[.string q, .int .i64 u, .int .i64 v] 24)
          have hb3 := below_alloc hb2 (.cells #[.string q, .int .i64 u, .int .i64 v] 24)
          go_wp2_with (at_lookup; refine wpList_mapr_look rfl _ _ rfl mp2 Kstr Try.underlying9 Try.underlying60 (zrule _) rfl q rfl hml HA.out HI.out ?_)
          refine (CN.out _).mono ?_
          rintro e w4 ⟨rfl, bel4⟩
          have mp4 := mp3.below bel4 mp3.lt
          have own4 := own3.below bel4 (Nat.le_refl _)
          have hb4 := below_on hb3 bel4
          clear mp3 own3 hb3 mp2 own2 bp q0 q1 q2 ql bel4
          go_wp2_with fail
          go_roundw
          case rel => exact ⟨k + 1, by omega, by go_num, by rw [HT.out, HOLD.out]; exact mp4.mono (by omega), own4, hb4⟩
          case measure => simp [intOf]; omega
    · obtain rfl : k = N := by omega
      clear own
      obtain ⟨wo, rfl⟩ : ∃ wo : World, wo = wr := ⟨_, rfl⟩
      obtain ⟨m, hm⟩ : ∃ m, joinR [] (L.take k) = m := ⟨_, rfl⟩
      rw [hm] at hmp HU HJ
      clear hm
      have hbt : w.heap.size < wo.heap.size := hmp.lt
      have hbW := hb.size
      have e1 : (wo.alloc (.cells #[.slice none 0 0] 22)).heap.size = wo.heap.size + 1 := by simp
      have bt0 := Blk.new wo 22 #[.slice none 0 0]
      have hb0 := below_alloc hb (.cells #[.slice none 0 0] 22)
      go_wp2_with (at_range; refine wpList_mapr_range rfl _ rfl (hmp.alloc _) HU.out Kstr Try.underlying60 rfl ?_; intro w0 cnt0 hrg0 hg0 hs0)
      go_frame
      have bt1 := bt0.grown hg0 (by simp)
      have hb1 := hb0.grown hg0 hb0.size (fun j hj => by cases hj)
      rw [e1] at hrg0 hs0 ⊢
      clear hmp bt0 hb0 hg0
      go_loopw [45] (fun _ wx => ∃ (o : List Rul) (cnt no : Nat) (Ao : Option Addr) (co : Nat), RanR Try.prog 9 wx w.heap.size (wo.heap.size + 1) k m o cnt ∧ Own wx (wo.heap.size + 2) 24 3 Ao no co (rls o) ∧ Blk wx wo.heap.size 22 #[.slice Ao no co] ∧ Below w.heap.size w wx) (fun _ wx => wx.rangeLeft w.heap.size (wo.heap.size + 1))
      case atStart => exact ⟨[], cnt0, 0, none, 0, hrg0, Own.nil _ _ _ _, bt1, hb1⟩
      case round =>
        clear hrg0 bt1 hb1
        obtain ⟨o, cnt, no, Ao, co, hrg, own, bt, hbx⟩ := hrel
        have hnl : o.length = no := own.sl.rlen
        have hroom := hrg.room
        have hml := hrg.left_eq
        have hbo : ∀ x, blockOf Ao = some x → wo.heap.size + 2 ≤ x := fun x hx => (own.blk hx).1
        have hgx := bt.lt
        have hrl := hrg.lt
        go_wp2_with (at_next; refine wpList_mapr_next rfl _ rfl Kstr Try.underlying9 HU.out rfl hrg ?_ ?_)
        · intro hall hdist
          have f0 := bt.at_ (i := 0) (u := .slice Ao no co) rfl
          have hne : blockOf Ao ≠ some wo.heap.size := fun e => by have := hbo _ e; omega
          have CS := hide (sort_rules own f0 hgx hne (by omega))
          have HU9 := hide (show ∀ o', o'.Perm o → NoLess o' → o' = m from fun o' h1 h9 => sorted_is h1 h9 hdist (fun s => hall s.1 s.2.1 s.2.2) HU.out)
          clear hall hdist hrg own hml hroom
          go_wp2_with fail
          refine CS.out.mono ?_
          rintro e w5 ⟨rfl, o', hperm, hsrt, hsl, hgr⟩
          obtain rfl := HU9.out _ hperm hsrt
          have bt5 := bt.grown hgr hne
          have f5 := bt5.at_ (i := 0) (u := .slice Ao no co) rfl
          have hb5 := hbx.grown hgr hbx.size (fun x hx => by have := hbo x hx; omega)
          have hlo : o'.length = no := hsl.rlen
          clear CS HU9 hperm hsrt bt hbx hbo hgr
          by_cases h16 : 16 < no
          · have HG := hide (show jo (joinR l l2) = (2, []) by rw [HJ.out]; exact if_pos (by omega))
            clear hlo
            go_wp2_with fail
            rw [HG.out]
            go_ret2
            exact ⟨none, 0, 0, rfl, Sl.nil _ _ 3, hb5⟩
          · have HG := hide (show jo (joinR l l2) = (0, o') by rw [HJ.out]; exact if_neg (by omega))
            clear hlo
            go_wp2_with fail
            rw [HG.out]
            go_ret2
            exact ⟨Ao, no, co, rfl, hsl, hb5⟩
        · intro p x y w1 cnt1 hcm hrg1 hlt1 hg1 hs1 hen
          have own1 := own.grown hg1 (fun x hx e => by have := hbo x (by rw [hx]; rfl); injection e with e; omega)
          have bt1 := bt.grown hg1 (by intro e; injection e with e; omega)
          have hb1 := hbx.grown hg1 hbx.size (fun j hj => by injection hj with hj; omega)
          have f0 := (bt1.alloc (.cells #[.string p, .int .i64 x, .int .i64 y] 24)).at_ (i := 0) (u := .slice Ao no co) rfl
          have lt1 := bt1.lt
          have ownA := (own1.alloc (.cells #[.string p, .int .i64 x, .int .i64 y] 24)).alloc (.cells #[.string p, .int .i64 x, .int .i64 y] 24)
          have btA := (bt1.alloc (.cells #[.string p, .int .i64 x, .int .i64 y] 24)).alloc (.cells #[.string p, .int .i64 x, .int .i64 y] 24)
          have hrgA := (hrg1.alloc (.cells #[.string p, .int .i64 x, .int .i64 y] 24)).alloc (.cells #[.string p, .int .i64 x, .int .i64 y] 24)
          have hbA := below_alloc (below_alloc hb1 (.cells #[.string p, .int .i64 x, .int .i64 y] 24)) (.cells #[.string p, .int .i64 x, .int .i64 y] 24)
          have hz1 : wo.heap.size + 2 ≤ w1.heap.size := by omega
          have hsl := Sl.new (w1.alloc (.cells #[.string p, .int .i64 x, .int .i64 y] 24)) 24 3 1 (rls [(p, x, y)]) (by simp [maxLen]) rfl
          rw [World.size_alloc] at hsl
          clear hrg own bt hbx hs1
          go_wp2_with (at_builtin; refine wpList_append_sl T_rule rfl _ _ rfl (by rfl) (by rfl) ownA hsl (rls_one _) (by simp only [maxLen]; omega) (by omega) (by simp only [World.size_alloc]; omega) ?_; intro A3 c3 w3 ap; have b3 := btA.grown ap.grow (fun e => by have := hbo _ e; omega); have e3 := b3.at_ (i := 0) (u := .slice Ao no co) rfl; have ef3 := b3.free 0)
          have hrg3 := (hrgA.kept ap.grow (fun e => by have := hbo _ e.symm; omega) (fun e => by have := hbo _ e.symm; omega)).set (p := ⟨wo.heap.size, 0, none⟩) (by dsimp only; omega) (by dsimp only; omega) (.slice A3 (no + 1) c3)
          have own3 := ap.own.far (p := ⟨wo.heap.size, 0, none⟩) (fun gx hgx2 => by have := (ap.own.blk (g := gx) (by rw [hgx2]; rfl)).1; dsimp only; omega) (.slice A3 (no + 1) c3)
          rw [← rls_append] at own3
          have bt3 := b3.set 0 (.slice A3 (no + 1) c3)
          have hb3 : Below w.heap.size w (w3.setCell ⟨wo.heap.size, 0, none⟩ (.slice A3 (no + 1) c3)) := below_set (hbA.trans (ap.below.mono (by omega))) (by dsimp only; omega) _
          go_roundw
          case rel => exact ⟨o ++ [(p, x, y)], cnt1, no + 1, A3, c3, hrg3, own3, bt3, hb3⟩
          case measure => rw [hrg3.left_eq, hml]; exact hlt1
end
end Go.Proofs.Ytfopihlbdceepaa
